/- The contracts of a table's home and find. Conditions: a table of at most 2048 slots, one of which is empty. -/
import Derived.Test.YtakhofmnldlppaaC
namespace Go.Proofs.Ytakhofmnldlppaa
open Go.RowKit

theorem mod_fit (a m : Nat) (h0 : 1 ≤ m) (h1 : m ≤ 2048) : IntKind.i64.wrap ((a : Int) % (m : Int)) = ((a % m : Nat) : Int) := by
  have h := Nat.mod_lt a (show m > 0 by omega)
  rw [← Int.natCast_emod]
  exact IntWalk.i64_in _ (by omega)
theorem cell_keep {w w' : World} {a : Addr} {v : Value} (hb : Below w.heap.size w w') (h : w.cell? a = some v) : w'.cell? a = some v := (hb.cell (World.block_lt_of_cell? w _ h)).trans h
theorem below_undrew {w w1 : World} (h : Below w.drew.heap.size w.drew w1) : Below w.heap.size w w1 := ⟨h.os, h.tape, h.output, h.size, h.block⟩
theorem text_below (s : ByteArray) (hs : s.size ≤ 9223372036854775807) (w : World) : Calls Try.prog 31 #[.string s] w fun e w' => e = .returned (.int .u64 (txt s)) ∧ Below w.heap.size w w' := (text_any s hs w).mono (by rintro e w' ⟨rfl, rfl⟩; exact ⟨rfl, Below.refl _ _⟩)
set_option maxHeartbeats 1000000 in
theorem home_any {w : World} {b g : Nat} {L : List S} {most n : Nat} (h : TabAt w b g L most n) (h0 : 1 ≤ L.length) (h1 : L.length ≤ 2048) (s : ByteArray) (hs : s.size ≤ 9223372036854775807) :
    Calls Try.prog 26 #[.pointer (some ⟨b, 0, none⟩), .string s] w fun e w' => e = .returned (.int .i64 (txt s % L.length : Nat)) ∧ Below w.heap.size w w' := by
  obtain ⟨c0, -, -⟩ := h.head
  obtain ⟨m, hm⟩ : ∃ m, L.length = m := ⟨_, rfl⟩
  rw [hm] at c0 h0 h1
  rw [hm]
  have HM := Lib.hid (mod_fit (txt s) m h0 h1)
  have hne : (m : Int) ≠ 0 := by omega
  have hne2 : m ≠ 0 := by omega
  have hl0 : (0 : Int) ≤ (m : Int) := by omega
  have hl1 : (m : Int) < 18446744073709551616 := by omega
  have ht0 : (0 : Int) ≤ (txt s : Int) := by omega
  have hw : IntKind.u64.wrap (m : Int) = (m : Int) := Mx.wrap_small m (by omega)
  clear h h0 h1 hm
  go_enter Try.func26, Try.ntmps26
  go_wp2_with fail
  go_region_held3 (fun w' => w'.cell? ⟨b, 0, none⟩ = some (.slice (some ⟨g, 0, none⟩) m m)) (first | assumption | exact cell_keep b31 (by assumption)) (first | (go_at_call 31; refine (text_below s hs _).mono ?_; rintro e w5 ⟨rfl, b31⟩))
  all_goals go_wp2
  all_goals go_ret
  exact ⟨ret_int HM.out, below_undrew b31⟩
/-- The search for a key from slot i on, at most f slots far. -/
def scan (L : List S) (s : ByteArray) : Nat → Nat → Nat × Bool
  | 0, i => (i, false)
  | f + 1, i => match L[i]? with
    | none => (i, false)
    | some x => if x.used then (if x.key = s then (i, true) else scan L s f ((i + 1) % L.length)) else (i, false)
def hm (L : List S) (s : ByteArray) : Nat := txt s % L.length
def findP (L : List S) (s : ByteArray) : Nat × Bool := scan L s L.length (hm L s)
/-- An empty slot lies d behind slot h. -/
def Free (L : List S) (h d : Nat) : Prop := d < L.length ∧ ∃ x, L[(h + d) % L.length]? = some x ∧ x.used = false
theorem str_ne (s t : ByteArray) (h : s ≠ t) : (s.toList == t.toList) = false := by
  rw [ByteArray.toList_eq, ByteArray.toList_eq]
  simp only [beq_eq_false_iff_ne]
  exact fun e => h (by cases s; cases t; simp_all)
theorem str_same (s : ByteArray) : (s.toList == s.toList) = true := by simp
theorem wrap_next {i m : Nat} (hi : i < m) (hm : m ≤ 2048) : IntKind.i64.wrap ((i : Int) + 1) = ((i + 1 : Nat) : Int) := by
  rw [IntWalk.i64_in _ (by omega)]; omega
theorem next_mod (h d m : Nat) : (h + (d + 1)) % m = ((h + d) % m + 1) % m := by rw [← Nat.add_assoc, Nat.mod_add_mod]
theorem dist_back {h d m : Nat} (hh : h < m) (hd : d < m) : ((h + d) % m + (m - h)) % m = d := by
  rw [Nat.mod_add_mod, show h + d + (m - h) = d + m by omega, Nat.add_mod_right, Nat.mod_eq_of_lt hd]
theorem meas_lt {h m D d i j : Nat} {v v' : Value} (hv' : v' = .int .i64 (j : Nat)) (hv : v = .int .i64 (i : Nat)) (e1 : (i + (m - h)) % m = d) (e2 : (j + (m - h)) % m = d + 1) (hd : d < D) : D - ((intOf v').toNat + (m - h)) % m < D - ((intOf v).toNat + (m - h)) % m := by
  subst hv hv'
  have a : (intOf (.int .i64 (i : Nat))).toNat = i := by simp [intOf]
  have b : (intOf (.int .i64 (j : Nat))).toNat = j := by simp [intOf]
  rw [a, b, e1, e2]
  omega
def FindPost (w : World) (L : List S) (s : ByteArray) (e : Ending) (w' : World) : Prop := e = .returned (.tuple #[.int .i64 (findP L s).1, .bool (findP L s).2]) ∧ Below w.heap.size w w'
set_option maxHeartbeats 1000000 in
theorem find_any {w : World} {b g : Nat} {L : List S} {most n : Nat} (h : TabAt w b g L most n) (h1 : L.length ≤ 2048) (s : ByteArray) (hs : s.size ≤ 9223372036854775807) (D : Nat) (hfree : Free L (hm L s) D) :
    Calls Try.prog 25 #[.pointer (some ⟨b, 0, none⟩), .string s] w fun e w' => FindPost w L s e w' := by
  have h0 : 1 ≤ L.length := by have := hfree.1; omega
  have hhome := Lib.hid (home_any h h0 h1 s hs)
  have HT := Lib.hid h
  have HF := Lib.hid hfree
  obtain ⟨m, hml⟩ : ∃ m, L.length = m := ⟨_, rfl⟩
  rw [hml] at h0 h1
  have HM := Lib.hid hml
  have hlt : hm L s < m := by unfold hm; rw [hml]; exact Nat.mod_lt _ (by omega)
  clear h hfree hml
  go_enter Try.func25, Try.ntmps25
  go_wp2_with fail
  refine (hhome.out).mono ?_
  rintro e w1 ⟨rfl, hb⟩
  have HT1 := Lib.hid (HT.out.below hb)
  have HB := Lib.hid hb
  clear hb hhome
  go_wp2_with fail
  go_loopw [6] (fun v wr => ∃ (d i : Nat), d ≤ D ∧ i < m ∧ v = .int .i64 i ∧ Hid (i = (hm L s + d) % m ∧ scan L s (m - d) i = findP L s) ∧ wr = w1) (fun v _ => D - ((intOf v).toNat + (m - hm L s)) % m)
  case atStart => exact ⟨0, hm L s, Nat.zero_le _, hlt, by unfold hm; rw [HM.out]; rfl, Lib.hid ⟨by rw [Nat.add_zero, Nat.mod_eq_of_lt hlt], by unfold findP; rw [HM.out]; rfl⟩, rfl⟩
  case round =>
    obtain ⟨d, i, hd, hi, rfl, hsc, rfl⟩ := hrel
    have hDm : D < m := by have := HF.out.1; rw [HM.out] at this; exact this
    obtain ⟨x, hx⟩ : ∃ x, L[i]? = some x := ⟨_, List.getElem?_eq_getElem (by rw [HM.out]; exact hi)⟩
    obtain ⟨a0, a1, -, -⟩ := HT1.out.at hx
    obtain ⟨c0, -, -⟩ := HT1.out.head
    have HX := Lib.hid hx
    have hi0 : (0 : Int) ≤ (i : Int) := by omega
    have hi1 : (i : Int) < (m : Int) := by omega
    have hi2 : ¬ (m : Int) ≤ (i : Int) := by omega
    rw [HM.out] at c0
    have hsd := hsc.out.2
    rw [show m - d = (m - d - 1) + 1 by omega, scan, hx] at hsd
    simp only at hsd
    have HSD := Lib.hid hsd
    have hfd := HF.out.2
    rw [HM.out] at hfd
    have hDd : x.used = true → d < D := fun hu => Nat.lt_of_le_of_ne hd (fun e => by
      obtain ⟨y, hy, hyu⟩ := hfd
      rw [← e, ← hsc.out.1, hx] at hy
      injection hy with hy
      rw [← hy, hu] at hyu
      cases hyu)
    clear hx hsd hfd
    obtain ⟨used, key, home, v⟩ := x
    simp only at a0 a1 hDd HSD
    cases used with
    | false =>
      have hr := HSD.out
      simp only [if_neg (show ¬ (false = true) from Bool.false_ne_true)] at hr
      have HR := Lib.hid hr
      clear hr hDd
      go_wp2_with fail
      go_ret2
      exact ⟨by rw [← HR.out]; rfl, HB.out⟩
    | true =>
      have hr := HSD.out
      rw [if_pos rfl] at hr
      have hdD := hDd rfl
      by_cases hk : key = s
      · subst hk
        rw [if_pos rfl] at hr
        have HR := Lib.hid hr
        have hs1 := str_same key
        clear hr hDd
        go_wp2_with fail
        go_ret2
        exact ⟨by rw [← HR.out]; rfl, HB.out⟩
      · rw [if_neg hk, HM.out] at hr
        have HR := Lib.hid hr
        have hs1 := str_ne key s hk
        have hw := wrap_next hi h1
        have hne : (m : Int) ≠ 0 := by omega
        clear hr hDd hk
        go_wp2_with fail
        go_roundw
        case rel => exact ⟨d + 1, (i + 1) % m, hdD, Nat.mod_lt _ (by omega), by go_num, Lib.hid ⟨by rw [hsc.out.1]; exact (next_mod _ _ _).symm, by rw [show m - (d + 1) = m - d - 1 by omega]; exact HR.out⟩, trivial⟩
        case measure =>
          have e1 : (i + (m - hm L s)) % m = d := by rw [hsc.out.1]; exact dist_back hlt (by omega)
          have e2 : ((i + 1) % m + (m - hm L s)) % m = d + 1 := by
            rw [show (i + 1) % m = (hm L s + (d + 1)) % m by rw [hsc.out.1]; exact (next_mod _ _ _).symm]
            exact dist_back hlt (by omega)
          refine meas_lt ?_ rfl e1 e2 hdD
          go_num
end Go.Proofs.Ytakhofmnldlppaa
