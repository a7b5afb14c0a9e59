/- The contract of Walk. Conditions: each tree is nil or one of ours. -/
import Derived.Test.YtibgfmkgojeefaaF
namespace Go.Proofs.Ytibgfmkgojeefaa
open Go.RowKit

theorem down_any {B bt bu : Nat} {lt lu : Nat → Nat} : ∀ (d i n : Nat) (xs : List Nat) (w : World), 64 ≤ i * 2 ^ d → (i + 1) * 2 ^ d ≤ 128 → n + 2 ^ (d + 1) ≤ 900 → xs.length + 2 ^ d ≤ 900 → B + 5 ≤ w.heap.size → WS w B bt bu lt lu n xs →
    Calls Try.prog 25 #[.int .i64 i, .pointer (some ⟨B + 3, 0, none⟩), .pointer (some ⟨B, 0, none⟩), .pointer (some ⟨B + 1, 0, none⟩), .pointer (some ⟨B + 2, 0, none⟩), .pointer (some ⟨B + 4, 0, none⟩)] w
      fun e w' => DownPost w B bt bu lt lu (n + (dn lt lu d i).2) (xs ++ (dn lt lu d i).1) e w'
  | 0, i, n, xs, w => fun h0 h1 hn hx hsz h => by
    rw [Nat.pow_zero, Nat.mul_one] at h0 h1
    by_cases he : nd lt i = nd lu i
    · rw [dn_same _ _ _ _ he, List.append_nil]
      exact down_same h i (by omega) (by omega) (by omega) he
    · rw [dn_leaf _ _ _ he]
      exact down_leaf h hsz i (by omega) (by omega) (by omega) (by omega) he
  | d + 1, i, n, xs, w => fun h0 h1 hn hx hsz h => by
    obtain ⟨p0, p1⟩ := dn_pos h0 h1
    obtain ⟨⟨q0, q1⟩, q2, q3⟩ := dn_left h0 h1
    have e1 : 2 ^ (d + 1) = 2 * 2 ^ d := by rw [Nat.pow_succ]; omega
    have e2 : 2 ^ (d + 1 + 1) = 4 * 2 ^ d := by rw [Nat.pow_succ, Nat.pow_succ]; omega
    have hp : 1 ≤ 2 ^ d := Nat.one_le_two_pow
    rw [e1] at hx
    rw [e2] at hn
    by_cases he : nd lt i = nd lu i
    · rw [dn_same _ _ _ _ he, List.append_nil]
      exact down_same h i p0 (by omega) (by omega) he
    · rw [dn_more _ _ _ _ he]
      have b1 := dn_bound lt lu d (2 * i)
      have b2 := dn_bound lt lu d (2 * i + 1)
      rw [e1] at b1 b2
      have c1 : ((2 * i : Nat) : Int) = 2 * (i : Int) := by omega
      have c2 : ((2 * i + 1 : Nat) : Int) = 2 * (i : Int) + 1 := by omega
      have a1 : n + (1 + (dn lt lu d (2 * i)).2 + (dn lt lu d (2 * i + 1)).2) = n + 1 + (dn lt lu d (2 * i)).2 + (dn lt lu d (2 * i + 1)).2 := by omega
      rw [a1, ← List.append_assoc]
      refine down_more h i p0 p1 (by omega) he (n + 1 + (dn lt lu d (2 * i)).2) _ (xs ++ (dn lt lu d (2 * i)).1) _ ?_ ?_
      · intro w0 hs hb hsz0
        have := down_any d (2 * i) (n + 1) xs w0 q0 q1 (by rw [e1]; omega) (by omega) (by omega) hs
        rw [c1] at this
        exact this
      · intro w0 hs hb hsz0
        have := down_any d (2 * i + 1) (n + 1 + (dn lt lu d (2 * i)).2) (xs ++ (dn lt lu d (2 * i)).1) w0 q2 q3 (by rw [e1]; omega) (by rw [List.length_append]; omega) (by omega) hs
        rw [c2] at this
        exact this

theorem it_is {α : Type} (x : α) : ∃ n, x = n := ⟨x, rfl⟩
/-- What a walk finds, and at how many nodes it looks; chosen, so that no kernel ever reckons it. -/
noncomputable def found (a b : Nat → Nat) : List Nat := Classical.choose (it_is (dn a b 6 1).1)
noncomputable def looked (a b : Nat → Nat) : Nat := Classical.choose (it_is (dn a b 6 1).2)
def WalkPost (w : World) (xs : List Nat) (n : Nat) (e : Ending) (w' : World) : Prop :=
  ∃ v, e = .returned (.tuple #[v, .int .i64 n]) ∧ w'.ownsRow w.heap.size 3 1 v xs.length (xs.map (fun k : Nat => Value.int .i64 k)) ∧ Below w.heap.size w w'

theorem walk_nil (q : Option Addr) (w : World) : Calls Try.prog 12 #[.pointer none, .pointer q] w fun e w' => WalkPost w [] 0 e w' := by
  have hb : Below w.heap.size w (((w.alloc (.cells #[.pointer none] 23)).alloc (.cells #[.pointer q] 23)).alloc (.cells #[.slice none 0 0] 29)) :=
    (((Below.refl _ w).alloc (by simp) _).alloc (by simp) _).alloc (by simp; omega) _
  have HB := Lib.hid hb
  clear hb
  go_enter Try.func12, Try.ntmps12
  go_wp2
  go_ret2
  exact ⟨_, rfl, World.ownsRow_nil _ _ _ _, HB.out⟩
theorem walk_none (b : Nat) (w : World) : Calls Try.prog 12 #[.pointer (some ⟨b, 0, none⟩), .pointer none] w fun e w' => WalkPost w [] 0 e w' := by
  have hb : Below w.heap.size w (((w.alloc (.cells #[.pointer (some ⟨b, 0, none⟩)] 23)).alloc (.cells #[.pointer none] 23)).alloc (.cells #[.slice none 0 0] 29)) :=
    (((Below.refl _ w).alloc (by simp) _).alloc (by simp) _).alloc (by simp; omega) _
  have HB := Lib.hid hb
  clear hb
  go_enter Try.func12, Try.ntmps12
  go_wp2
  go_ret2
  exact ⟨_, rfl, World.ownsRow_nil _ _ _ _, HB.out⟩
theorem own_base {w : World} {base base' : Nat} {e : TypeId} {size : Nat} {v : Value} {n : Nat} {xs : List Value} (h : w.ownsRow base e size v n xs) (hb : base' ≤ base) : w.ownsRow base' e size v n xs := by
  refine ⟨h.1, ?_⟩
  rcases h.2 with h1 | ⟨g, cap, cur, a, b, c⟩
  · exact .inl h1
  · exact .inr ⟨g, cap, cur, a, Nat.le_trans hb b, c⟩
theorem st_size (w : World) (o : Obj) : (w.alloc o).heap.size = w.heap.size + 1 := by simp
theorem start_at (w : World) (bt bu : Nat) (lt lu : Nat → Nat) (ht : Tr w bt lt) (hu : Tr w bu lu) (w5 : World)
    (h5 : w5 = ((((w.alloc (.cells #[.pointer (some ⟨bt, 0, none⟩)] 23)).alloc (.cells #[.pointer (some ⟨bu, 0, none⟩)] 23)).alloc (.cells #[.slice none 0 0] 29)).alloc (.cells #[.int .i64 0] 3)).alloc (.cells #[.func (.func 25) #[] (capt w.heap.size)] 55)) :
    WS w5 w.heap.size bt bu lt lu 0 [] ∧ Below w.heap.size w w5 ∧ w.heap.size + 5 ≤ w5.heap.size := by
  obtain ⟨w1, h1⟩ : ∃ w1, w1 = w.alloc (.cells #[.pointer (some ⟨bt, 0, none⟩)] 23) := ⟨_, rfl⟩
  obtain ⟨w2, h2⟩ : ∃ w2, w2 = w1.alloc (.cells #[.pointer (some ⟨bu, 0, none⟩)] 23) := ⟨_, rfl⟩
  obtain ⟨w3, h3⟩ : ∃ w3, w3 = w2.alloc (.cells #[.slice none 0 0] 29) := ⟨_, rfl⟩
  obtain ⟨w4, h4⟩ : ∃ w4, w4 = w3.alloc (.cells #[.int .i64 0] 3) := ⟨_, rfl⟩
  obtain ⟨w6, h6⟩ : ∃ w6, w6 = w4.alloc (.cells #[.func (.func 25) #[] (capt w.heap.size)] 55) := ⟨_, rfl⟩
  rw [← h1, ← h2, ← h3, ← h4, ← h6] at h5
  have s1 : w1.heap.size = w.heap.size + 1 := by rw [h1]; exact st_size _ _
  have s2 : w2.heap.size = w.heap.size + 2 := by rw [h2, st_size]; omega
  have s3 : w3.heap.size = w.heap.size + 3 := by rw [h3, st_size]; omega
  have s4 : w4.heap.size = w.heap.size + 4 := by rw [h4, st_size]; omega
  have s6 : w6.heap.size = w.heap.size + 5 := by rw [h6, st_size]; omega
  have e1 : ∀ k, k < w.heap.size → w1.heap[k]? = w.heap[k]? := fun k h => by rw [h1]; exact Below.heap_alloc _ _ _ h
  have e2 : ∀ k, k < w.heap.size + 1 → w2.heap[k]? = w1.heap[k]? := fun k h => by rw [h2]; exact Below.heap_alloc _ _ _ (by omega)
  have e3 : ∀ k, k < w.heap.size + 2 → w3.heap[k]? = w2.heap[k]? := fun k h => by rw [h3]; exact Below.heap_alloc _ _ _ (by omega)
  have e4 : ∀ k, k < w.heap.size + 3 → w4.heap[k]? = w3.heap[k]? := fun k h => by rw [h4]; exact Below.heap_alloc _ _ _ (by omega)
  have e5 : ∀ k, k < w.heap.size + 4 → w6.heap[k]? = w4.heap[k]? := fun k h => by rw [h6]; exact Below.heap_alloc _ _ _ (by omega)
  have e6 : ∀ k, k < w.heap.size + 4 → w5.heap[k]? = w6.heap[k]? := fun k h => by rw [h5]
  have n0 : w1.heap[w.heap.size]? = some (.cells #[.pointer (some ⟨bt, 0, none⟩)] 23) := by rw [h1]; exact heap_alloc_new _ _
  have n1 : w2.heap[w.heap.size + 1]? = some (.cells #[.pointer (some ⟨bu, 0, none⟩)] 23) := by rw [h2, ← s1]; exact heap_alloc_new _ _
  have n2 : w3.heap[w.heap.size + 2]? = some (.cells #[.slice none 0 0] 29) := by rw [h3, ← s2]; exact heap_alloc_new _ _
  have n3 : w4.heap[w.heap.size + 3]? = some (.cells #[.int .i64 0] 3) := by rw [h4, ← s3]; exact heap_alloc_new _ _
  have n4 : w6.heap[w.heap.size + 4]? = some (.cells #[.func (.func 25) #[] (capt w.heap.size)] 55) := by rw [h6, ← s4]; exact heap_alloc_new _ _
  have hb : Below w.heap.size w w5 := by
    rw [h5, h6, h4, h3, h2, h1]
    exact (((((Below.refl _ w).alloc (by simp) _).alloc (by simp) _).alloc (by simp; omega) _).alloc (by simp; omega) _).alloc (by simp; omega) _
  refine ⟨⟨ht.below hb, hu.below hb, ht.lt, hu.lt, ?_, ?_, ⟨.slice none 0 0, ?_, World.ownsRow_nil _ _ _ _⟩, ?_, ?_⟩, hb, ?_⟩
  · rw [e6 _ (by omega), e5 _ (by omega), e4 _ (by omega), e3 _ (by omega), e2 _ (by omega)]; exact n0
  · rw [e6 _ (by omega), e5 _ (by omega), e4 _ (by omega), e3 _ (by omega)]; exact n1
  · rw [e6 _ (by omega), e5 _ (by omega), e4 _ (by omega)]; exact n2
  · rw [e6 _ (by omega), e5 _ (by omega)]; exact n3
  · rw [h5]; exact n4
  · rw [h5, s6]; omega
theorem down_zero {B bt bu : Nat} {lt lu : Nat → Nat} {w : World} (d i : Nat) (j : Int) (N : Nat) (F : List Nat) (hj : (i : Int) = j) (hN : (dn lt lu d i).2 = N) (hF : (dn lt lu d i).1 = F)
    (h0 : 64 ≤ i * 2 ^ d) (h1 : (i + 1) * 2 ^ d ≤ 128) (h2 : 0 + 2 ^ (d + 1) ≤ 900) (h3 : ([] : List Nat).length + 2 ^ d ≤ 900) (hsz : B + 5 ≤ w.heap.size) (hs : WS w B bt bu lt lu 0 []) :
    Calls Try.prog 25 #[.int .i64 j, .pointer (some ⟨B + 3, 0, none⟩), .pointer (some ⟨B, 0, none⟩), .pointer (some ⟨B + 1, 0, none⟩), .pointer (some ⟨B + 2, 0, none⟩), .pointer (some ⟨B + 4, 0, none⟩)] w
      fun e w' => DownPost w B bt bu lt lu N F e w' := by
  have h := down_any d i 0 [] _ h0 h1 h2 h3 hsz hs
  rw [Nat.zero_add, List.nil_append, hj, hN, hF] at h
  exact h
theorem looked_eq (lt lu : Nat → Nat) : (dn lt lu 6 1).2 = looked lt lu := Classical.choose_spec (it_is (dn lt lu 6 1).2)
theorem found_eq (lt lu : Nat → Nat) : (dn lt lu 6 1).1 = found lt lu := Classical.choose_spec (it_is (dn lt lu 6 1).1)
theorem down_root {B bt bu : Nat} {lt lu : Nat → Nat} {w : World} (N : Nat) (F : List Nat) (hN : looked lt lu = N) (hF : found lt lu = F) (hsz : B + 5 ≤ w.heap.size) (hs : WS w B bt bu lt lu 0 []) :
    Calls Try.prog 25 #[.int .i64 1, .pointer (some ⟨B + 3, 0, none⟩), .pointer (some ⟨B, 0, none⟩), .pointer (some ⟨B + 1, 0, none⟩), .pointer (some ⟨B + 2, 0, none⟩), .pointer (some ⟨B + 4, 0, none⟩)] w
      fun e w' => DownPost w B bt bu lt lu N F e w' :=
  down_zero 6 1 1 N F rfl ((looked_eq lt lu).trans hN) ((found_eq lt lu).trans hF) (by decide) (by decide) (by decide) (by decide) hsz hs
set_option maxRecDepth 100000 in
set_option maxHeartbeats 1000000 in
theorem walk_any {w : World} {bt bu : Nat} {lt lu : Nat → Nat} (ht : Tr w bt lt) (hu : Tr w bu lu) :
    Calls Try.prog 12 #[.pointer (some ⟨bt, 0, none⟩), .pointer (some ⟨bu, 0, none⟩)] w fun e w' => WalkPost w (found lt lu) (looked lt lu) e w' := by
  have hst : ∀ (a : Addr) (fn : Fn) (first cap : Array Value) (W : World), Sem.run Try.prog (store a (.func fn first cap)) W = stored Try.prog W a (.func fn first cap) .plain := fun a fn first cap W => run_store Try.prog W a _ _ rfl
  obtain ⟨N, hN⟩ : ∃ N, looked lt lu = N := ⟨_, rfl⟩
  obtain ⟨F, hF⟩ : ∃ F, found lt lu = F := ⟨_, rfl⟩
  rw [hN, hF]
  have HN := Lib.hid hN
  have HF := Lib.hid hF
  clear hN hF
  have HW := Lib.hid (start_at w bt bu lt lu ht hu _ rfl)
  clear ht hu
  have hmf : ∀ (fn : Fn) (first cap : Array Value) (w : World), (Instr.makeFunc fn first cap).run Try.prog w = .ok (.func fn first cap) w := fun _ _ _ _ => rfl
  go_enter Try.func12, Try.ntmps12
  go_wp2_with fail
  obtain ⟨hs, hb, hz⟩ := HW.out
  have hd := down_root N F HN.out HF.out hz hs
  refine (hd).mono ?_
  rintro e w1 ⟨rfl, hS, hB⟩
  obtain ⟨v, hv, hown⟩ := hS.c2
  have c2 : w1.cell? ⟨w.heap.size + 1 + 1, 0, none⟩ = some v := cell_of_one hv
  have c3 : w1.cell? ⟨w.heap.size + 1 + 1 + 1, 0, none⟩ = some (.int .i64 ((N : Nat) : Int)) := hS.cells.2.2.1
  have HB := Lib.hid (hb.trans hB).drew
  have HO : Hid (w1.drew.ownsRow w.heap.size 3 1 v (F).length ((F).map (fun k : Nat => Value.int .i64 k))) := Lib.hid (own_base (base' := w.heap.size) hown (Nat.le_add_right _ _))
  have hx : v = .slice none 0 0 ∨ ∃ g n cap, v = .slice (some ⟨g, 0, none⟩) n cap := by
    rcases hown.2 with ⟨h, _⟩ | ⟨g, cap, cur, h, _⟩
    · exact .inl h
    · exact .inr ⟨g, _, cap, h⟩
  clear hs hb hz hd hS hB hv hown HW
  rcases hx with rfl | ⟨g, n, cap, rfl⟩
  · go_wp2_with fail
    go_region
    go_wp2
    go_ret2
    exact ⟨_, rfl, HO.out, HB.out⟩
  · go_wp2_with fail
    go_region
    go_wp2
    go_ret2
    exact ⟨_, rfl, HO.out, HB.out⟩
end Go.Proofs.Ytibgfmkgojeefaa
