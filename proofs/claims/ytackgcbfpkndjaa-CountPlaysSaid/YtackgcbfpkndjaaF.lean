/- The contract of the chapter's example (fixed). No conditions. -/
import Derived.Test.YtackgcbfpkndjaaE
namespace Go.Proofs.Ytackgcbfpkndjaa
open Go.RowKit Go.Maps Go.WideMaps

def TruePost (w : World) (e : Ending) (w' : World) : Prop := e = .returned (.bool true) ∧ Below w.heap.size w w'

/-- New of names that were just written out, with what follows: the object and the memory. -/
theorem lit_cells (ns : List ByteArray) (w : World) : ∀ (j : Nat) (s : ByteArray), ns[j]? = some s → (w.alloc (.cells (ns.map Value.string).toArray 9)).cell? ((⟨w.heap.size, 0, none⟩ : Addr).add j) = some (.string s) := by
  intro j s hj
  have h := cell_new (W := w) rfl (ns.map Value.string).toArray 9 j
  have e : ((⟨w.heap.size, 0, none⟩ : Addr).add j) = ⟨w.heap.size, j, none⟩ := by
    simp only [Addr.add, Nat.zero_add]
    split
    · rename_i h0; rw [h0]
    · rfl
  rw [e, h]
  simp [hj]

theorem set_step {w w2 : World} {b bn bm bv : Nat} {ns : List ByteArray} {vs : List Int} (h : CountsAt w b bn bm bv ns vs) {i : Nat} {x : Int} (hw : w.setCell ⟨bv, i, none⟩ (.int .u64 x) = w2) (hx : 0 ≤ x ∧ x ≤ 18446744073709551615) :
    CountsAt w2 b bn bm bv ns (vs.set i x) := by subst hw; exact h.set i x hx
theorem below_set {B : Nat} {a w w2 : World} {bv i : Nat} {u : Value} (hb : Below B a w) (hw : w.setCell ⟨bv, i, none⟩ u = w2) (hB : B ≤ bv) : Below B a w2 := by subst hw; exact hb.setCell hB u
theorem addTo_range {x n : Int} (hx : 0 ≤ x) (hn : 0 ≤ n) : 0 ≤ addTo x n ∧ addTo x n ≤ 18446744073709551615 := by unfold addTo; split <;> omega

def sA : ByteArray := { data := #[97] }
def sB : ByteArray := { data := #[98] }
def sC : ByteArray := { data := #[99] }
def sX : ByteArray := { data := #[120] }
def sY : ByteArray := { data := #[121] }

theorem szA : sA.size = 1 := rfl
theorem szB : sB.size = 1 := rfl
theorem szC : sC.size = 1 := rfl
theorem szX : sX.size = 1 := rfl
theorem szY : sY.size = 1 := rfl
theorem neAB : sA ≠ sB := by simp [sA, sB]
theorem neCA : sC ≠ sA := by simp [sA, sC]
theorem neCB : sC ≠ sB := by simp [sC, sB]
theorem neXY : sX ≠ sY := by simp [sX, sY]
theorem neXA : sX ≠ sA := by simp [sX, sA]
theorem neYA : sY ≠ sA := by simp [sY, sA]
theorem one_fit : 1 ≤ maxLen := by unfold maxLen; decide
theorem ones {ns : List ByteArray} (h : ∀ s ∈ ns, s.size = 1) : (∀ s ∈ ns, s.size ≠ 0) ∧ (∀ s ∈ ns, s.size ≤ maxLen) :=
  ⟨fun s hs e => by have := h s hs; omega, fun s hs => by rw [h s hs]; exact one_fit⟩
theorem onesAB : ∀ s ∈ [sA, sB], s.size = 1 := by simp [szA, szB]

set_option maxHeartbeats 1000000 in
theorem fixed_any (w : World) : Calls Try.prog 8 #[] w fun e w' => TruePost w e w' := by
  go_enter Try.func8, Try.ntmps8
  go_wp2_with fail
  refine (new_ok ⟨w.heap.size, 0, none⟩ 2 [sA, sB] _ (lit_cells [sA, sB] w) (by decide) (by decide) (by simp [neAB]) (ones onesAB).1 (ones onesAB).2).mono ?_
  rintro e w1 ⟨b, bn, bm, bv, rfl, hC, -, -, -, l3, hb⟩
  have hb1 : Below w.heap.size w w1 := ((Below.refl _ _).alloc (Nat.le_refl _) _).trans (hb.mono (by simp))
  have l : w.heap.size ≤ bv := by simp at l3; omega
  clear l3 hb
  go_wp2_with fail
  refine (add_hit hC sA 0 0 5 rfl rfl (by omega) (by omega)).mono ?_
  rintro e w2 ⟨rfl, hw⟩
  have hC2 : CountsAt w2 b bn bm bv [sA, sB] [5, 0] := set_step hC hw (addTo_range (by omega) (by omega))
  have hb2 := below_set hb1 hw l
  clear hw hC hb1
  go_wp2_with fail
  refine (add_hit hC2 sA 0 5 18446744073709551615 rfl rfl (by omega) (by omega)).mono ?_
  rintro e w3 ⟨rfl, hw⟩
  have hC3 : CountsAt w3 b bn bm bv [sA, sB] [18446744073709551615, 0] := set_step hC2 hw (addTo_range (by omega) (by omega))
  have hb3 := below_set hb2 hw l
  clear hw hC2 hb2
  go_wp2_with fail
  refine (add_miss hC3 sC 1 (by rw [szC]; exact one_fit) (by simp [neCA, neCB])).mono ?_
  rintro e w4 ⟨rfl, rfl⟩
  go_wp2_with fail
  refine (get_hit hC3 sA 0 18446744073709551615 rfl rfl).mono ?_
  rintro e w4 ⟨rfl, rfl⟩
  go_wp2_with fail
  refine (get_hit hC3 sB 1 0 rfl rfl).mono ?_
  rintro e w4 ⟨rfl, rfl⟩
  have HB := Lib.hid hb3
  clear hb3
  go_wp2
  go_ret
  exact ⟨rfl, HB.out⟩
end Go.Proofs.Ytackgcbfpkndjaa
