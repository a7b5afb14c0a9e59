/- The contract of the laws' example. -/
import Derived.Test.YtibgfmkgojeefaaE
import Derived.Test.YtibgfmkgojeefaaH
import Derived.Test.YtibgfmkgojeefaaI
namespace Go.Proofs.Ytibgfmkgojeefaa
open Go.RowKit

def FixedPost (w : World) (e : Ending) (w' : World) : Prop := e = .returned (.bool true) ∧ Below w.heap.size w w'
theorem Tr.drewN {w : World} {b : Nat} {lv : Nat → Nat} (h : Tr w b lv) (n : Nat) : Tr (w.drewN n) b lv := h.heap rfl
theorem below_drewN {B : Nat} {a w : World} (h : Below B a w) (n : Nat) : Below B a (w.drewN n) := ⟨h.os, h.tape, h.output, h.size, h.block⟩
theorem Tr.other {w w' : World} {b c : Nat} {lv : Nat → Nat} (h : Tr w b lv) (hg : w.grownBy w' (some c)) (hne : b ≠ c) : Tr w' b lv := h.heap (hg.block b h.lt (fun e => hne (Option.some.inj e)))
theorem irow_of_own {w : World} {base : Nat} {v : Value} {xs : List Nat} (h : w.ownsRow base 3 1 v xs.length (xs.map (fun k : Nat => Value.int .i64 k))) : IRow w .i64 v xs := by
  rcases h.2 with ⟨rfl, h0⟩ | ⟨g, cap, cur, rfl, h1, h2, h3, h4, h5, h6⟩
  · exact ⟨none, 0, by rw [h0], fun hn => absurd (List.length_eq_zero_iff.1 h0) hn⟩
  · refine ⟨_, cap, rfl, fun _ => ⟨g, 0, rfl, fun j x hj => ?_⟩⟩
    rw [Nat.zero_add, cell_of_row w g j _ _ _ h2]
    have hlt : j < xs.length := (List.getElem?_eq_some_iff.1 hj).1
    have : (cur.toList.take (xs.length * 1))[j]? = some (.int .i64 x) := by rw [h6, List.getElem?_map, hj]; rfl
    rw [List.getElem?_take, if_pos (by omega)] at this
    rw [← this]
    simp

set_option maxRecDepth 100000 in
set_option maxHeartbeats 1000000 in
theorem fixed_any (w : World) : Calls Try.prog 10 #[] w fun e w' => FixedPost w e w' := by
  go_enter Try.func10, Try.ntmps10
  go_wp2_with fail
  refine (new_any w).mono ?_
  rintro e w1 ⟨t, rfl, ht, htn, hb1⟩
  have HT := Lib.hid ht
  have HB := Lib.hid hb1
  clear ht hb1
  go_wp2_with fail
  refine (new_any w1).mono ?_
  rintro e w2 ⟨u, rfl, hu, hun, hb2⟩
  have hne : t ≠ u := by have := HT.out.lt; omega
  have ht2 := HT.out.below hb2
  have HU := Lib.hid hu
  have HT2 := Lib.hid ht2
  have HB2 := Lib.hid (HB.out.trans (hb2.mono HB.out.size))
  have HNE := Lib.hid hne
  have HTN := Lib.hid htn
  clear hu hb2 hne ht2 HT HB htn hun
  go_wp2_with fail
  refine (root_any HT2.out).mono ?_
  rintro e w3 ⟨rfl, n, rfl⟩
  have hr : nd (fun _ => 0) 1 = 0 := nd_zero 1 (by decide) (by decide)
  rw [hr]
  have hf := flip_any (HT2.out.drewN n) 5 (by decide) 9 (by decide)
  have HF := Lib.hid hf
  clear hr hf
  go_wp2_with fail
  refine (HF.out).mono ?_
  rintro e w4 ⟨rfl, ht4, hg4⟩
  have hu4 := (HU.out.drewN n).other hg4 (fun e => HNE.out e.symm)
  have hb4 : Below w.heap.size w w4 := (below_drewN HB2.out n).grown hg4 HB2.out.size (fun q hq => by cases hq; exact HTN.out)
  have hw := walk_any ht4 hu4
  have e1 : found (turn (fun _ => 0) 5 9) (fun _ => 0) = [5] := found_example
  have e2 : looked (turn (fun _ => 0) 5 9) (fun _ => 0) = 13 := looked_example
  rw [e1, e2] at hw
  have HW := Lib.hid hw
  have HB4 := Lib.hid hb4
  clear HF HT2 HU HB2 HNE ht4 hg4 hu4 hb4 hw e1 e2
  go_wp2_with fail
  refine (HW.out).mono ?_
  rintro e w5 ⟨v, rfl, hown, hb5⟩
  have hb : Below w.heap.size w w5 := HB4.out.trans (hb5.mono HB4.out.size)
  have hcl : (w5.alloc (.cells #[.int .i64 5] 3)).cell? ⟨w5.heap.size, 0, none⟩ = some (.int .i64 5) := cell_new rfl #[.int .i64 5] 3 0
  have hy : IRow (w5.alloc (.cells #[.int .i64 5] 3)) .i64 (.slice (some ⟨w5.heap.size, 0, none⟩) 1 1) [5] := ⟨_, 1, rfl, fun _ => ⟨_, 0, rfl, fun j x hj => by
    match j, hj with
    | 0, hj => simp at hj; subst hj; exact hcl⟩⟩
  have hx : IRow (w5.alloc (.cells #[.int .i64 5] 3)) .i64 v [5] := irow_of_own (hown.alloc _)
  have HS := Lib.hid (same15_any hx hy (by decide))
  have HB5 := Lib.hid (hb.alloc (Nat.le_trans HB4.out.size hb5.size) (.cells #[.int .i64 5] 3))
  clear hb hcl hy hx hown hb5 HW HB4
  go_wp2_with fail
  refine (HS.out).mono ?_
  rintro e w6 ⟨rfl, m, rfl⟩
  go_wp2_with fail
  go_ret
  exact ⟨rfl, below_drewN HB5.out m⟩
end Go.Proofs.Ytibgfmkgojeefaa
