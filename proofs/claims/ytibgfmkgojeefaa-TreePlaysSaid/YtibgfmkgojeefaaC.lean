/- The contract of reckon. Conditions: the tree's nodes lie in one block. -/
import Derived.Test.YtibgfmkgojeefaaA
import Derived.Laws.Rows
import Derived.Below
import Derived.Deep.RegionWith
import Derived.BigRegion
import Derived.Deep.QuietTactic
import Derived.BigQuiet
import Derived.StillTailTactics
import Derived.IntWalk
namespace Go.Proofs.Ytibgfmkgojeefaa
open Go.RowKit

def nodeCells (L : List Nat) : Array Value := (L.map (fun x : Nat => Value.int .u64 x)).toArray
/-- Block b is a tree whose 128 numbers are L. -/
structure TreeAt (w : World) (b : Nat) (L : List Nat) : Prop where
  blk : w.heap[b]? = some (.cells (nodeCells L) 54 (0, 0))
  len : L.length = 128
  wf : ∀ x ∈ L, x < 2 ^ 64
theorem TreeAt.cell {w : World} {b : Nat} {L : List Nat} (h : TreeAt w b L) {i : Nat} {x : Nat} (hi : L[i]? = some x) : w.cell? ⟨b, i, none⟩ = some (.int .u64 x) := by
  rw [cell_of_row w b i _ _ _ h.blk]; simp [nodeCells, hi]
theorem TreeAt.free {w : World} {b : Nat} {L : List Nat} (h : TreeAt w b L) (i : Nat) : w.frozen? ⟨b, i, none⟩ = false := frozen_of_row w b i _ _ h.blk
theorem TreeAt.lt {w : World} {b : Nat} {L : List Nat} (h : TreeAt w b L) : b < w.heap.size := lt_of_block h.blk
theorem TreeAt.below {w w' : World} {b : Nat} {L : List Nat} (h : TreeAt w b L) (hb : Below w.heap.size w w') : TreeAt w' b L := ⟨by rw [hb.block _ h.lt]; exact h.blk, h.len, h.wf⟩
theorem TreeAt.heap {w w' : World} {b : Nat} {L : List Nat} (h : TreeAt w b L) (hb : w'.heap[b]? = w.heap[b]?) : TreeAt w' b L := ⟨by rw [hb]; exact h.blk, h.len, h.wf⟩
theorem TreeAt.set {w : World} {b : Nat} {L : List Nat} (h : TreeAt w b L) (i x : Nat) (hx : x < 2 ^ 64) : TreeAt (w.setCell ⟨b, i, none⟩ (.int .u64 x)) b (L.set i x) := by
  refine ⟨?_, by rw [List.length_set]; exact h.len, ?_⟩
  · rw [heap_setCell_same w b i _ _ _ h.blk]
    simp [nodeCells, List.map_set]
  · intro y hy
    rcases List.mem_or_eq_of_mem_set hy with h1 | rfl
    · exact h.wf y h1
    · exact hx

set_option maxHeartbeats 1000000 in
theorem reckon_any {w : World} {b : Nat} {L : List Nat} (h : TreeAt w b L) (i : Nat) (h0 : 1 ≤ i) (h1 : i < 64) (x y : Nat) (hx : L[2 * i]? = some x) (hy : L[2 * i + 1]? = some y) :
    Calls Try.prog 24 #[.pointer (some ⟨b, 0, none⟩), .int .i64 i] w fun e w' => e = .returned (.tuple #[]) ∧ ∃ n, w' = (w.setCell ⟨b, i, none⟩ (.int .u64 (Mx.two x y))).drewN n := by
  have cx := h.cell hx
  have cy := h.cell hy
  have cf := h.free i
  obtain ⟨z, hz⟩ : ∃ z, L[i]? = some z := ⟨_, List.getElem?_eq_getElem (l := L) (i := i) (by rw [h.len]; omega)⟩
  have cz := h.cell hz
  have hxl := Lib.hid (h.wf x (List.mem_of_getElem? hx))
  have hyl := Lib.hid (h.wf y (List.mem_of_getElem? hy))
  have hi0 : (0 : Int) ≤ (i : Int) := by omega
  have hi1 : (i : Int) < 64 := by omega
  have i0 : (0 : Int) ≤ 2 * (i : Int) := by omega
  have i1 : 2 * (i : Int) < 128 := by omega
  have j0 : (0 : Int) ≤ 2 * (i : Int) + 1 := by omega
  have j1 : 2 * (i : Int) + 1 < 128 := by omega
  have k1 : (i : Int) < 128 := by omega
  have e1 : IntKind.i64.wrap (2 * (i : Int)) = 2 * (i : Int) := IntWalk.i64_in _ (by omega)
  have e2 : IntKind.i64.wrap (2 * (i : Int) + 1) = 2 * (i : Int) + 1 := IntWalk.i64_in _ (by omega)
  have e3 : (2 * (i : Int)).toNat = 2 * i := by omega
  have e4 : (2 * (i : Int) + 1).toNat = 2 * i + 1 := by omega
  clear h hx hy hz
  go_enter Try.func24, Try.ntmps24
  go_region_with (go_at_call 28; refine (two_any x y hxl.out hyl.out _).mono ?_; rintro e w5 ⟨rfl, rfl⟩)
  all_goals go_end0
  all_goals trace_state
  all_goals exact ⟨rfl, _, rfl⟩
end Go.Proofs.Ytibgfmkgojeefaa
