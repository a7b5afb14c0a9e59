/- The contracts of ref11.Same and ref14.Same. Conditions: rows of numbers, of at most 1000. -/
import Derived.Test.YtibgfmkgojeefaaG
namespace Go.Proofs.Ytibgfmkgojeefaa
open Go.RowKit

/-- The slice v holds the numbers xs. -/
def IRow (w : World) (k : IntKind) (v : Value) (xs : List Nat) : Prop := ∃ p c, v = .slice p xs.length c ∧ (xs ≠ [] → ∃ g o, p = some ⟨g, o, none⟩ ∧ ∀ (j x : Nat), xs[j]? = some x → w.cell? ⟨g, o + j, none⟩ = some (.int k x))
def SamePost (w : World) (b : Bool) (e : Ending) (w' : World) : Prop := e = .returned (.bool b) ∧ ∃ n, w' = w.drewN n
theorem take_more {xs ys : List Nat} {k x y : Nat} (h : xs.take k = ys.take k) (hx : xs[k]? = some x) (hy : ys[k]? = some y) (he : x = y) : xs.take (k + 1) = ys.take (k + 1) := by
  rw [List.take_add_one, List.take_add_one, hx, hy, h, he]
theorem drewN_two (w : World) (m n : Nat) : (w.drewN m).drewN n = w.drewN (m + n) := by simp [World.drewN, Nat.add_assoc]

theorem same15_len (p q : Option Addr) (n m c d : Nat) (h : n ≠ m) (w : World) : Calls Try.prog 15 #[.slice p n c, .slice q m d] w fun e w' => SamePost w false e w' := by
  have h0 : ((n : Int) == (m : Int)) = false := beq_eq_false_iff_ne.2 (by omega)
  go_enter Try.func15, Try.ntmps15
  go_wp2
  go_ret
  exact ⟨rfl, 0, rfl⟩
theorem same15_nil (p q : Option Addr) (c d : Nat) (w : World) : Calls Try.prog 15 #[.slice p 0 c, .slice q 0 d] w fun e w' => SamePost w true e w' := by
  go_enter Try.func15, Try.ntmps15
  go_wp2
  go_loopw [13] (fun i wr => i = .int .i64 0 ∧ wr = w) (fun i _ => 0)
  case atStart => exact ⟨rfl, rfl⟩
  case round =>
    obtain ⟨rfl, rfl⟩ := hrel
    go_wp2
    go_ret
    exact ⟨rfl, 0, rfl⟩
set_option maxRecDepth 100000 in
set_option maxHeartbeats 1000000 in
theorem same15_on {w : World} {g1 g2 o1 o2 n c1 c2 : Nat} {xs ys : List Nat} (hx : xs.length = n) (hy : ys.length = n) (hmax : n ≤ 1000)
    (h1 : ∀ (j x : Nat), xs[j]? = some x → w.cell? ⟨g1, o1 + j, none⟩ = some (.int .i64 x)) (h2 : ∀ (j x : Nat), ys[j]? = some x → w.cell? ⟨g2, o2 + j, none⟩ = some (.int .i64 x)) :
    Calls Try.prog 15 #[.slice (some ⟨g1, o1, none⟩) n c1, .slice (some ⟨g2, o2, none⟩) n c2] w fun e w' => SamePost w (decide (xs = ys)) e w' := by
  have H1 := Lib.hid h1
  have H2 := Lib.hid h2
  have HX := Lib.hid hx
  have HY := Lib.hid hy
  clear h1 h2 hx hy
  obtain ⟨b, hb⟩ : ∃ b, decide (xs = ys) = b := ⟨_, rfl⟩
  rw [hb]
  have HB := Lib.hid hb
  clear hb
  go_enter Try.func15, Try.ntmps15
  go_wp2
  go_loopw [13] (fun i wr => ∃ k m : Nat, k ≤ n ∧ i = .int .i64 k ∧ wr = w.drewN m ∧ xs.take k = ys.take k) (fun i _ => n - (intOf i).toNat)
  case atStart => exact ⟨0, 0, Nat.zero_le _, rfl, rfl, rfl⟩
  case round =>
    obtain ⟨k, m, hk, rfl, rfl, ht⟩ := hrel
    have HT := Lib.hid ht
    clear ht
    by_cases hlt : k < n
    · obtain ⟨x, hp⟩ : ∃ x, xs[k]? = some x := ⟨_, List.getElem?_eq_getElem (by rw [HX.out]; exact hlt)⟩
      obtain ⟨y, hq⟩ : ∃ y, ys[k]? = some y := ⟨_, List.getElem?_eq_getElem (by rw [HY.out]; exact hlt)⟩
      have a0 := H1.out k x hp
      have b0 := H2.out k y hq
      have hk0 : (0 : Int) ≤ (k : Int) := by omega
      have hkn : (k : Int) < (n : Int) := by omega
      have HP := Lib.hid hp
      have HQ := Lib.hid hq
      clear hp hq
      by_cases he : x = y
      · have hee : ((x : Int) == (y : Int)) = true := by rw [beq_iff_eq, he]
        have HE := Lib.hid he
        clear he
        go_wp2_with fail
        go_quiet (fail)
        clear a0 b0
        go_wp2
        go_roundw
        case rel => exact ⟨k + 1, _, by omega, by go_num, rfl, take_more HT.out HP.out HQ.out HE.out⟩
        case measure => simp [intOf]; omega
      · have hee : ((x : Int) == (y : Int)) = false := beq_eq_false_iff_ne.2 (by omega)
        have hbf : b = false := by
          rw [← HB.out, decide_eq_false_iff_not]
          rintro rfl
          exact he (Option.some.inj (HP.out.symm.trans HQ.out))
        subst hbf
        clear he
        go_wp2_with fail
        go_quiet (fail)
        clear a0 b0
        go_wp2
        go_ret
        exact ⟨rfl, _, drewN_two _ _ _⟩
    · have hbt : b = true := by
        rw [← HB.out, decide_eq_true_iff]
        have h := HT.out
        rw [List.take_of_length_le (by rw [HX.out]; omega), List.take_of_length_le (by rw [HY.out]; omega)] at h
        exact h
      subst hbt
      go_wp2
      go_ret
      exact ⟨rfl, m, rfl⟩
theorem same15_any {w : World} {u v : Value} {xs ys : List Nat} (hx : IRow w .i64 u xs) (hy : IRow w .i64 v ys) (hmax : xs.length ≤ 1000) :
    Calls Try.prog 15 #[u, v] w fun e w' => SamePost w (decide (xs = ys)) e w' := by
  obtain ⟨p, c, rfl, h1⟩ := hx
  obtain ⟨q, d, rfl, h2⟩ := hy
  by_cases hl : xs.length = ys.length
  · by_cases h0 : xs = []
    · subst h0
      obtain rfl : ys = [] := List.length_eq_zero_iff.1 hl.symm
      exact same15_nil p q c d w
    · have h0' : ys ≠ [] := fun e => h0 (List.length_eq_zero_iff.1 (by rw [hl, e]; rfl))
      obtain ⟨g1, o1, rfl, k1⟩ := h1 h0
      obtain ⟨g2, o2, rfl, k2⟩ := h2 h0'
      have h := same15_on (w := w) (g1 := g1) (g2 := g2) (o1 := o1) (o2 := o2) (n := xs.length) (c1 := c) (c2 := d) rfl hl.symm hmax k1 k2
      rw [← hl]
      exact h
  · rw [decide_eq_false (fun e => hl (by rw [e]))]
    exact same15_len p q _ _ c d hl w

theorem same21_len (p q : Option Addr) (n m c d : Nat) (h : n ≠ m) (w : World) : Calls Try.prog 21 #[.slice p n c, .slice q m d] w fun e w' => SamePost w false e w' := by
  have h0 : ((n : Int) == (m : Int)) = false := beq_eq_false_iff_ne.2 (by omega)
  go_enter Try.func21, Try.ntmps21
  go_wp2
  go_ret
  exact ⟨rfl, 0, rfl⟩
theorem same21_nil (p q : Option Addr) (c d : Nat) (w : World) : Calls Try.prog 21 #[.slice p 0 c, .slice q 0 d] w fun e w' => SamePost w true e w' := by
  go_enter Try.func21, Try.ntmps21
  go_wp2
  go_loopw [13] (fun i wr => i = .int .i64 0 ∧ wr = w) (fun i _ => 0)
  case atStart => exact ⟨rfl, rfl⟩
  case round =>
    obtain ⟨rfl, rfl⟩ := hrel
    go_wp2
    go_ret
    exact ⟨rfl, 0, rfl⟩
set_option maxRecDepth 100000 in
set_option maxHeartbeats 1000000 in
theorem same21_on {w : World} {g1 g2 o1 o2 n c1 c2 : Nat} {xs ys : List Nat} (hx : xs.length = n) (hy : ys.length = n) (hmax : n ≤ 1000)
    (h1 : ∀ (j x : Nat), xs[j]? = some x → w.cell? ⟨g1, o1 + j, none⟩ = some (.int .u64 x)) (h2 : ∀ (j x : Nat), ys[j]? = some x → w.cell? ⟨g2, o2 + j, none⟩ = some (.int .u64 x)) :
    Calls Try.prog 21 #[.slice (some ⟨g1, o1, none⟩) n c1, .slice (some ⟨g2, o2, none⟩) n c2] w fun e w' => SamePost w (decide (xs = ys)) e w' := by
  have H1 := Lib.hid h1
  have H2 := Lib.hid h2
  have HX := Lib.hid hx
  have HY := Lib.hid hy
  clear h1 h2 hx hy
  obtain ⟨b, hb⟩ : ∃ b, decide (xs = ys) = b := ⟨_, rfl⟩
  rw [hb]
  have HB := Lib.hid hb
  clear hb
  go_enter Try.func21, Try.ntmps21
  go_wp2
  go_loopw [13] (fun i wr => ∃ k m : Nat, k ≤ n ∧ i = .int .i64 k ∧ wr = w.drewN m ∧ xs.take k = ys.take k) (fun i _ => n - (intOf i).toNat)
  case atStart => exact ⟨0, 0, Nat.zero_le _, rfl, rfl, rfl⟩
  case round =>
    obtain ⟨k, m, hk, rfl, rfl, ht⟩ := hrel
    have HT := Lib.hid ht
    clear ht
    by_cases hlt : k < n
    · obtain ⟨x, hp⟩ : ∃ x, xs[k]? = some x := ⟨_, List.getElem?_eq_getElem (by rw [HX.out]; exact hlt)⟩
      obtain ⟨y, hq⟩ : ∃ y, ys[k]? = some y := ⟨_, List.getElem?_eq_getElem (by rw [HY.out]; exact hlt)⟩
      have a0 := H1.out k x hp
      have b0 := H2.out k y hq
      have hk0 : (0 : Int) ≤ (k : Int) := by omega
      have hkn : (k : Int) < (n : Int) := by omega
      have HP := Lib.hid hp
      have HQ := Lib.hid hq
      clear hp hq
      by_cases he : x = y
      · have hee : ((x : Int) == (y : Int)) = true := by rw [beq_iff_eq, he]
        have HE := Lib.hid he
        clear he
        go_wp2_with fail
        go_quiet (fail)
        clear a0 b0
        go_wp2
        go_roundw
        case rel => exact ⟨k + 1, _, by omega, by go_num, rfl, take_more HT.out HP.out HQ.out HE.out⟩
        case measure => simp [intOf]; omega
      · have hee : ((x : Int) == (y : Int)) = false := beq_eq_false_iff_ne.2 (by omega)
        have hbf : b = false := by
          rw [← HB.out, decide_eq_false_iff_not]
          rintro rfl
          exact he (Option.some.inj (HP.out.symm.trans HQ.out))
        subst hbf
        clear he
        go_wp2_with fail
        go_quiet (fail)
        clear a0 b0
        go_wp2
        go_ret
        exact ⟨rfl, _, drewN_two _ _ _⟩
    · have hbt : b = true := by
        rw [← HB.out, decide_eq_true_iff]
        have h := HT.out
        rw [List.take_of_length_le (by rw [HX.out]; omega), List.take_of_length_le (by rw [HY.out]; omega)] at h
        exact h
      subst hbt
      go_wp2
      go_ret
      exact ⟨rfl, m, rfl⟩
theorem same21_any {w : World} {u v : Value} {xs ys : List Nat} (hx : IRow w .u64 u xs) (hy : IRow w .u64 v ys) (hmax : xs.length ≤ 1000) :
    Calls Try.prog 21 #[u, v] w fun e w' => SamePost w (decide (xs = ys)) e w' := by
  obtain ⟨p, c, rfl, h1⟩ := hx
  obtain ⟨q, d, rfl, h2⟩ := hy
  by_cases hl : xs.length = ys.length
  · by_cases h0 : xs = []
    · subst h0
      obtain rfl : ys = [] := List.length_eq_zero_iff.1 hl.symm
      exact same21_nil p q c d w
    · have h0' : ys ≠ [] := fun e => h0 (List.length_eq_zero_iff.1 (by rw [hl, e]; rfl))
      obtain ⟨g1, o1, rfl, k1⟩ := h1 h0
      obtain ⟨g2, o2, rfl, k2⟩ := h2 h0'
      have h := same21_on (w := w) (g1 := g1) (g2 := g2) (o1 := o1) (o2 := o2) (n := xs.length) (c1 := c) (c2 := d) rfl hl.symm hmax k1 k2
      rw [← hl]
      exact h
  · rw [decide_eq_false (fun e => hl (by rw [e]))]
    exact same21_len p q _ _ c d hl w
end Go.Proofs.Ytibgfmkgojeefaa
