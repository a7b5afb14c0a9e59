/- The laws' flip: what the turned leaves are, and the walk. Conditions: the tree is ours; the row lies as Go's slices do. -/
import Derived.Test.YtibgfmkgojeefaaJ
import Derived.Test.YtibgfmkgojeefaaV
import Derived.OpenShut
import Derived.Deep.WholeRow
namespace Go.Proofs.Ytibgfmkgojeefaa
open Go.RowKit Go.Maps Go.WideMaps Go.ChangeShapes Go.WideShapes Go.Deep

structure FlipV where
  i : Int
  x : Nat
def cells39 (f : FlipV) : List Value := [.int .i64 f.i, .int .u64 f.x]
def ok39 (f : FlipV) : Prop := -9223372036854775808 ≤ f.i ∧ f.i ≤ 9223372036854775807 ∧ f.x < 2 ^ 64
def flipStep (lv : Nat → Nat) (f : FlipV) : Nat → Nat := if 0 ≤ f.i ∧ f.i < 64 then turn lv f.i.toNat f.x else lv
def flips (lv : Nat → Nat) (L : List FlipV) : Nat → Nat := L.foldl flipStep lv
theorem flipStep_in {lv : Nat → Nat} {f : FlipV} (h : 0 ≤ f.i ∧ f.i < 64) : flipStep lv f = turn lv f.i.toNat f.x := by unfold flipStep; rw [if_pos h]
theorem flipStep_out {lv : Nat → Nat} {f : FlipV} (h : ¬ (0 ≤ f.i ∧ f.i < 64)) : flipStep lv f = lv := by unfold flipStep; rw [if_neg h]
theorem flips_more (lv : Nat → Nat) (L : List FlipV) (k : Nat) (f : FlipV) (h : L[k]? = some f) : flips lv (L.take (k + 1)) = flipStep (flips lv (L.take k)) f := by
  unfold flips
  rw [List.take_add_one, h, List.foldl_append]
  rfl
theorem flips_lt {L : List FlipV} (hL : ∀ f ∈ L, f.x < 2 ^ 64) : ∀ {lv : Nat → Nat}, (∀ j, lv j < 2 ^ 64) → ∀ j, flips lv L j < 2 ^ 64 := by
  induction L with
  | nil => intro lv h; exact h
  | cons f r ih =>
    intro lv h
    show ∀ j, flips (flipStep lv f) r j < 2 ^ 64
    refine ih (fun g hg => hL g (List.mem_cons_of_mem _ hg)) ?_
    unfold flipStep
    split
    · exact turn_lt h _ _ (hL f List.mem_cons_self)
    · exact h

/-- The cells of an array of 64 numbers. -/
def arr (m : Nat → Nat) : Array Value := ((List.range 64).map (fun j => Value.int .u64 (m j))).toArray
structure ArrAt (w : World) (b : Nat) (m : Nat → Nat) : Prop where
  blk : w.heap[b]? = some (.cells (arr m) 27 (0, 0))
theorem arr_get (m : Nat → Nat) {j : Nat} (h : j < 64) : (arr m)[j]? = some (.int .u64 (m j)) := by simp [arr, h]
theorem ArrAt.cell {w : World} {b : Nat} {m : Nat → Nat} (h : ArrAt w b m) {j : Nat} (hj : j < 64) : w.cell? ⟨b, j, none⟩ = some (.int .u64 (m j)) := by
  rw [cell_of_row w b j _ _ _ h.blk, arr_get m hj]
theorem ArrAt.free {w : World} {b : Nat} {m : Nat → Nat} (h : ArrAt w b m) (i : Nat) : w.frozen? ⟨b, i, none⟩ = false := frozen_of_row w b i _ _ h.blk
theorem arr_turn (m : Nat → Nat) (i x : Nat) (hi : i < 64) : (arr m).setIfInBounds i (.int .u64 ((m i ^^^ x : Nat) : Int)) = arr (turn m i x) := by
  apply Array.ext_getElem?
  intro j
  rw [Array.getElem?_setIfInBounds]
  by_cases hj : j < 64
  · rw [arr_get (turn m i x) hj]
    by_cases e : i = j
    · subst e
      rw [if_pos rfl, if_pos (by simp [arr, hi])]
      unfold turn
      rw [if_pos rfl]
    · rw [if_neg e, arr_get m hj]
      unfold turn
      rw [if_neg (fun h => e h.symm)]
  · have h1 : (arr (turn m i x))[j]? = none := by simp [arr]; omega
    have h2 : (arr m)[j]? = none := by simp [arr]; omega
    rw [h1]
    split
    · omega
    · exact h2
theorem ArrAt.turned {w : World} {b : Nat} {m : Nat → Nat} (h : ArrAt w b m) (i x : Nat) (hi : i < 64) : ArrAt (w.setCell ⟨b, i, none⟩ (.int .u64 ((m i ^^^ x : Nat) : Int))) b (turn m i x) := by
  refine ⟨?_⟩
  rw [heap_setCell_same w b i _ _ _ h.blk, ← arr_turn m i x hi]

theorem build27 (w : World) : (zeroValue 27).run Try.prog w = .ok (.agg (arr (fun _ => 0))) w := by kernel_rfl
theorem build39 (w : World) : (zeroValue 39).run Try.prog w = .ok (.agg #[.int .i64 0, .int .u64 0]) w := by kernel_rfl
theorem arr_size (m : Nat → Nat) : (arr m).size = 64 := by simp [arr]
/-- The whole array is read. -/
theorem ArrAt.load {w : World} {b : Nat} {m : Nat → Nat} (h : ArrAt w b m) : (loadCellsFrom ⟨b, 0, none⟩ 0 64 #[]).run Try.prog w = .ok (arr m) w := by
  have := run_loadCells_list (P := Try.prog) w ⟨b, 0, none⟩ (arr m).toList (fun j v hv => by
    have hadd : (⟨b, 0, none⟩ : Addr).add j = ⟨b, j, none⟩ := by unfold Addr.add; split <;> simp_all
    rw [hadd, cell_of_row _ _ j _ _ (0, 0) h.blk]
    simpa using hv)
  have e : (arr m).toList.length = 64 := by rw [Array.length_toList, arr_size]
  rw [e] at this
  simpa [loadCells] using this
theorem ArrAt.other {w w' : World} {b c : Nat} {m : Nat → Nat} (h : ArrAt w b m) (hg : w.grownBy w' (some c)) (hne : b ≠ c) : ArrAt w' b m := ⟨(hg.block b (lt_of_block h.blk) (fun e => hne (Option.some.inj e))).trans h.blk⟩
theorem ArrAt.below {w w' : World} {b : Nat} {m : Nat → Nat} (h : ArrAt w b m) (hb : Below w.heap.size w w') : ArrAt w' b m := ⟨(hb.block b (lt_of_block h.blk)).trans h.blk⟩
theorem arr_one (m : Nat → Nat) : (arr m).all (·.oneCell') = true := by
  rw [Array.all_eq_true]
  intro j hj
  have h := arr_get m (j := j) (by rw [arr_size] at hj; exact hj)
  rw [Array.getElem?_eq_getElem hj] at h
  rw [Option.some.inj h]
  rfl
/-- The whole array is written. -/
theorem ArrAt.store {w : World} {b : Nat} {m m' : Nat → Nat} (h : ArrAt w b m) : (storeCells ⟨b, 0, none⟩ (arr m').toList 0).run Try.prog w = .ok () (w.setRow b (arr m')) := by
  have := run_storeVar_row (P := Try.prog) w b 27 27 (arr m) (arr m') h.blk (by rw [arr_size]; kernel_rfl) (by rw [arr_size, arr_size]) (arr_one m')
  cases hq : Try.prog.info? 27 with
  | none =>
    have hz : (Try.prog.info? 27).map (·.size) = some 64 := by kernel_rfl
    rw [hq] at hz
    exact absurd hz (by simp)
  | some i =>
    have hz : (Try.prog.info? 27).map (·.size) = some 64 := by kernel_rfl
    rw [hq] at hz
    have hs : (arr m').size = i.size := by rw [arr_size]; simpa using hz.symm
    simpa [storeVar, sizeOf, typeInfo, hq, Value.cells, hs] using this
theorem ArrAt.stored {w : World} {b : Nat} {m m' : Nat → Nat} (h : ArrAt w b m) : ArrAt (w.setRow b (arr m')) b m' := ⟨setRow_heap w b _ _ _ _ h.blk⟩
end Go.Proofs.Ytibgfmkgojeefaa
