/- A table's slots in memory; what New makes; the contracts of home and New. Conditions: a table of at most 2048 slots. -/
import Derived.Test.YtakhofmnldlppaaB
import Derived.Laws.Rows
import Derived.Below
import Derived.Deep.RegionWith
import Derived.BigRegion
import Derived.Deep.QuietTactic
import Derived.BigQuiet
import Derived.StillTailTactics
import Derived.Deep.DeepCutAuto
import Derived.Deep.CutBlock
import Derived.Deep.RegionLaw
import Derived.Deep.RegionHeld3
namespace Go.Proofs.Ytakhofmnldlppaa
open Go.RowKit

/-- One slot. -/
structure S where
  used : Bool
  key : ByteArray
  home : Nat
  v : Int
def zeroS : S := ⟨false, ⟨#[]⟩, 0, 0⟩
def cellsS (s : S) : List Value := [.bool s.used, .string s.key, .int .i64 s.home, .int .i64 s.v]
theorem lenS (s : S) : (cellsS s).length = 4 := rfl
theorem flat_len {α : Type} {f : α → List Value} {c : Nat} (hf : ∀ x, (f x).length = c) (L : List α) : (L.flatMap f).length = L.length * c := by
  induction L with
  | nil => simp
  | cons x r ih => rw [List.flatMap_cons, List.length_append, hf, ih, List.length_cons, Nat.succ_mul]; omega
theorem flat_get {α : Type} {f : α → List Value} {c : Nat} (hf : ∀ x, (f x).length = c) : ∀ (L : List α) (i j : Nat) (x : α), L[i]? = some x → j < c → (L.flatMap f)[i * c + j]? = (f x)[j]? := by
  intro L
  induction L with
  | nil => intro i j x h; simp at h
  | cons y r ih =>
    intro i j x h hj
    rw [List.flatMap_cons]
    cases i with
    | zero =>
      simp at h
      subst h
      rw [Nat.zero_mul, Nat.zero_add, List.getElem?_append_left (by rw [hf]; exact hj)]
    | succ i =>
      rw [List.getElem?_append_right (by rw [hf, Nat.succ_mul]; omega), hf, show (i + 1) * c + j - c = i * c + j by rw [Nat.succ_mul]; omega]
      exact ih i j x (by simpa using h) hj
def cellsL (L : List S) : Array Value := (L.flatMap cellsS).toArray
theorem cellsL_get (L : List S) {i j : Nat} {x : S} (h : L[i]? = some x) (hj : j < 4) : (cellsL L)[i * 4 + j]? = (cellsS x)[j]? := by
  unfold cellsL
  rw [List.getElem?_toArray]
  exact flat_get lenS L i j x h hj
theorem flat_set {α : Type} {f : α → List Value} {c : Nat} (hf : ∀ x, (f x).length = c) (j : Nat) (u : Value) : ∀ (L : List α) (i : Nat) (x y : α), L[i]? = some x → j < c → f y = (f x).set j u → (L.set i y).flatMap f = (L.flatMap f).set (i * c + j) u := by
  intro L
  induction L with
  | nil => intro i x y h; simp at h
  | cons z r ih =>
    intro i x y h hj he
    cases i with
    | zero =>
      simp at h
      subst h
      rw [List.set_cons_zero, List.flatMap_cons, List.flatMap_cons, he, Nat.zero_mul, Nat.zero_add, List.set_append_left _ _ (by rw [hf]; exact hj)]
    | succ i =>
      rw [List.set_cons_succ, List.flatMap_cons, List.flatMap_cons, ih i x y (by simpa using h) hj he, List.set_append_right _ _ (by rw [hf, Nat.succ_mul]; omega), hf, show (i + 1) * c + j - c = i * c + j by rw [Nat.succ_mul]; omega]

/-- Block b is a table, its slots L lie at block g. -/
structure TabAt (w : World) (b g : Nat) (L : List S) (most n : Nat) : Prop where
  tab : w.heap[b]? = some (.cells #[.slice (some ⟨g, 0, none⟩) L.length L.length, .int .i64 most, .int .i64 n] 63 (0, 0))
  row : w.heap[g]? = some (.cells (cellsL L) 65 (0, 0))
  ne : b ≠ g
theorem TabAt.heap {w w' : World} {b g : Nat} {L : List S} {most n : Nat} (h : TabAt w b g L most n) (hb : w'.heap[b]? = w.heap[b]?) (hg : w'.heap[g]? = w.heap[g]?) : TabAt w' b g L most n := ⟨hb.trans h.tab, hg.trans h.row, h.ne⟩
theorem TabAt.ltb {w : World} {b g : Nat} {L : List S} {most n : Nat} (h : TabAt w b g L most n) : b < w.heap.size := lt_of_block h.tab
theorem TabAt.ltg {w : World} {b g : Nat} {L : List S} {most n : Nat} (h : TabAt w b g L most n) : g < w.heap.size := lt_of_block h.row
theorem TabAt.below {w w' : World} {b g : Nat} {L : List S} {most n : Nat} (h : TabAt w b g L most n) (hb : Below w.heap.size w w') : TabAt w' b g L most n := h.heap (hb.block _ h.ltb) (hb.block _ h.ltg)
theorem TabAt.head {w : World} {b g : Nat} {L : List S} {most n : Nat} (h : TabAt w b g L most n) :
    w.cell? ⟨b, 0, none⟩ = some (.slice (some ⟨g, 0, none⟩) L.length L.length) ∧ w.cell? ⟨b, 1, none⟩ = some (.int .i64 most) ∧ w.cell? ⟨b, 2, none⟩ = some (.int .i64 n) :=
  ⟨by rw [cell_of_row w b 0 _ _ _ h.tab]; rfl, by rw [cell_of_row w b 1 _ _ _ h.tab]; rfl, by rw [cell_of_row w b 2 _ _ _ h.tab]; rfl⟩
theorem TabAt.free {w : World} {b g : Nat} {L : List S} {most n : Nat} (h : TabAt w b g L most n) (i : Nat) : w.frozen? ⟨b, i, none⟩ = false ∧ w.frozen? ⟨g, i, none⟩ = false := ⟨frozen_of_row w b i _ _ h.tab, frozen_of_row w g i _ _ h.row⟩
theorem TabAt.at {w : World} {b g : Nat} {L : List S} {most n : Nat} (h : TabAt w b g L most n) {i : Nat} {x : S} (hx : L[i]? = some x) :
    w.cell? ⟨g, i * 4, none⟩ = some (.bool x.used) ∧ w.cell? ⟨g, i * 4 + 1, none⟩ = some (.string x.key) ∧ w.cell? ⟨g, i * 4 + 2, none⟩ = some (.int .i64 x.home) ∧ w.cell? ⟨g, i * 4 + 3, none⟩ = some (.int .i64 x.v) :=
  ⟨by rw [cell_of_row w g _ _ _ _ h.row]; exact cellsL_get L hx (j := 0) (by decide), by rw [cell_of_row w g _ _ _ _ h.row]; exact cellsL_get L hx (j := 1) (by decide),
   by rw [cell_of_row w g _ _ _ _ h.row]; exact cellsL_get L hx (j := 2) (by decide), by rw [cell_of_row w g _ _ _ _ h.row]; exact cellsL_get L hx (j := 3) (by decide)⟩
/-- One cell of a slot is written. -/
theorem TabAt.put {w : World} {b g : Nat} {L : List S} {most n : Nat} (h : TabAt w b g L most n) {i j : Nat} {x y : S} {u : Value} (hx : L[i]? = some x) (hj : j < 4) (he : cellsS y = (cellsS x).set j u) : TabAt (w.setCell ⟨g, i * 4 + j, none⟩ u) b g (L.set i y) most n := by
  refine ⟨?_, ?_, h.ne⟩
  · rw [heap_setCell_other w _ b u h.ne, List.length_set]
    exact h.tab
  · rw [heap_setCell_same w g _ _ _ _ h.row]
    unfold cellsL
    rw [flat_set lenS j u L i x y hx hj he]
    simp
/-- The count is written. -/
theorem TabAt.count {w : World} {b g : Nat} {L : List S} {most n : Nat} (h : TabAt w b g L most n) (k : Nat) : TabAt (w.setCell ⟨b, 2, none⟩ (.int .i64 k)) b g L most k := by
  refine ⟨?_, ?_, h.ne⟩
  · rw [heap_setCell_same w b 2 _ _ _ h.tab]
    rfl
  · rw [heap_setCell_other w _ g _ h.ne.symm]
    exact h.row

/-- A number of slots: the least power of two that is no less than 2 n, from m on. -/
def dbl (n : Nat) : Nat → Nat → Nat
  | 0, m => m
  | f + 1, m => if m < 2 * n then dbl n f (m * 2) else m
def slotsFor (n : Nat) : Nat := dbl n 11 1
theorem dbl_done {n f m : Nat} (h : ¬ m < 2 * n) : dbl n f m = m := by cases f with
  | zero => rfl
  | succ f => rw [dbl, if_neg h]
theorem dbl_range (n : Nat) : ∀ f m, 2 * n ≤ m * 2 ^ f → m < 4 * n → 2 * n ≤ dbl n f m ∧ dbl n f m < 4 * n := by
  intro f
  induction f with
  | zero => intro m h1 h2; simp at h1; exact ⟨h1, h2⟩
  | succ f ih =>
    intro m h1 h2
    rw [dbl]
    split
    · exact ih (m * 2) (by rw [Nat.mul_assoc, ← Nat.pow_succ']; exact h1) (by omega)
    · exact ⟨by omega, h2⟩
theorem slotsFor_range {n : Nat} (h0 : 1 ≤ n) (h1 : n ≤ 1024) : 2 * n ≤ slotsFor n ∧ slotsFor n < 4 * n := dbl_range n 11 1 (by omega) (by omega)
theorem dbl_two (n : Nat) : ∀ f m, (∃ j, m = 2 ^ j) → ∃ j, dbl n f m = 2 ^ j := by
  intro f
  induction f with
  | zero => intro m h; exact h
  | succ f ih =>
    intro m h
    rw [dbl]
    split
    · obtain ⟨j, rfl⟩ := h; exact ih _ ⟨j + 1, by rw [Nat.pow_succ]⟩
    · exact h

theorem info65 : (Try.prog.info? 65).map (fun i => (i.zero, i.size, i.bytes)) = some (some (.agg #[.bool false, .string ⟨#[]⟩, .int .i64 0, .int .i64 0]), 4, 40) := by kernel_rfl
theorem info_parts {P : Program} {t : TypeId} {z : Value} {s b : Nat} (h : (P.info? t).map (fun i => (i.zero, i.size, i.bytes)) = some (some z, s, b)) : ∃ i, P.info? t = some i ∧ i.zero = some z ∧ i.size = s ∧ i.bytes = b := by
  obtain ⟨i, hi, he⟩ := Option.map_eq_some_iff.1 h
  simp only [Prod.mk.injEq] at he
  exact ⟨i, hi, he.1, he.2.1, he.2.2⟩
def blank (m : Nat) : List S := List.replicate m zeroS
theorem made_rep {α : Type} (f : α → List Value) {c : Nat} (hc : 0 < c) (hf : ∀ x, (f x).length = c) (z : α) (m : Nat) : madeCells (f z).toArray (m * c) = ((List.replicate m z).flatMap f).toArray := by
  apply Array.ext'
  apply List.ext_getElem?
  intro i
  by_cases hi : i < m * c
  · have h1 : i / c < m := (Nat.div_lt_iff_lt_mul hc).2 hi
    have h2 := flat_get hf (List.replicate m z) (i / c) (i % c) z (by simp [h1]) (Nat.mod_lt _ hc)
    rw [show i / c * c + i % c = i from Nat.div_add_mod' i c] at h2
    rw [h2]
    have h3 : i % c < (f z).length := by rw [hf]; exact Nat.mod_lt _ hc
    simp [madeCells, hf, hi, getElem!_pos, Nat.mod_lt _ hc]
  · rw [List.getElem?_eq_none (by simp [madeCells]; omega), List.getElem?_eq_none (by rw [flat_len hf]; simp; omega)]
theorem make61 (m : Nat) (hm : m ≤ 4096) : ∀ wx : World, (Instr.makeSlice 61 (.int .i64 m) (.int .i64 m)).run Try.prog wx = .ok (.slice (some ⟨wx.heap.size, 0, none⟩) m m) (wx.alloc (.cells (cellsL (blank m)) 65)) := fun wx => by
  obtain ⟨i0, hi, hz0, hz1, hz2⟩ := info_parts info65
  have h := run_make (P := Try.prog) wx 61 65 i0 _ Try.underlying61 hi hz0 .i64 .i64 m m (by omega) (by omega) (by rw [hz2]; omega) (by omega)
  rw [h, hz1, Int.toNat_natCast, show (Value.agg #[.bool false, .string ⟨#[]⟩, .int .i64 0, .int .i64 0]).cells = (cellsS zeroS).toArray from rfl, made_rep cellsS (by decide) lenS]
  rfl
theorem len_blank (m : Nat) : (blank m).length = m := by simp [blank]
theorem new_tab (w : World) (m k : Nat) : TabAt ((w.alloc (.cells (cellsL (blank m)) 65)).alloc (.cells #[.slice (some ⟨w.heap.size, 0, none⟩) m m, .int .i64 k, .int .i64 0] 63)) (w.heap.size + 1) w.heap.size (blank m) k 0 := by
  refine ⟨?_, ?_, by omega⟩
  · have h := heap_alloc_new (w.alloc (.cells (cellsL (blank m)) 65)) (.cells #[.slice (some ⟨w.heap.size, 0, none⟩) m m, .int .i64 k, .int .i64 0] 63)
    rw [World.size_alloc] at h
    rw [h, len_blank]
    rfl
  · exact (((Below.refl _ _).alloc (Nat.le_refl _) _).block _ (by simp)).trans (heap_alloc_new w _)
def NewPost (w : World) (k : Nat) (e : Ending) (w' : World) : Prop := ∃ b g, e = .returned (.tuple #[.pointer (some ⟨b, 0, none⟩), .int .i64 0]) ∧ TabAt w' b g (blank (slotsFor k)) k 0 ∧ w.heap.size ≤ b ∧ w.heap.size ≤ g ∧ Below w.heap.size w w'
theorem new_bad (k : Int) (h : k < 1 ∨ 1024 < k) (w : World) : Calls Try.prog 8 #[.int .i64 k] w fun e w' => e = .returned (.tuple #[.pointer none, .int .i64 1]) ∧ w = w' := by
  rcases h with h | h
  · go_enter Try.func8, Try.ntmps8
    go_wp2
    go_ret2
    exact ⟨rfl, rfl⟩
  · have h0 : ¬ k < 1 := by omega
    go_enter Try.func8, Try.ntmps8
    go_wp2
    go_ret2
    exact ⟨rfl, rfl⟩
set_option maxHeartbeats 1000000 in
theorem new_any (k : Nat) (h0 : 1 ≤ k) (h1 : k ≤ 1024) (w : World) : Calls Try.prog 8 #[.int .i64 k] w fun e w' => NewPost w k e w' := by
  have hk0 : ¬ (k : Int) < 1 := by omega
  have hk1 : ¬ (1024 : Int) < (k : Int) := by omega
  have HR := Lib.hid (slotsFor_range h0 h1)
  go_enter Try.func8, Try.ntmps8
  go_wp2_with fail
  go_loopw [4] (fun v wr => ∃ m : Nat, 1 ≤ m ∧ v = .int .i64 m ∧ m < 4 * k ∧ (∃ f, Hid (dbl k f m = slotsFor k ∧ 2 * k ≤ m * 2 ^ f)) ∧ wr = w) (fun v _ => 2 * k - (intOf v).toNat)
  case atStart => exact ⟨1, Nat.le_refl _, rfl, by omega, ⟨11, Lib.hid ⟨rfl, by omega⟩⟩, rfl⟩
  case round =>
    obtain ⟨m, hm, rfl, hm4, ⟨f, hf⟩, rfl⟩ := hrel
    by_cases hlt : m < 2 * k
    · have hlz : (m : Int) < 2 * (k : Int) := by omega
      go_wp2_with fail
      go_roundw
      case rel =>
        refine ⟨m * 2, by omega, by go_num, by omega, ?_, trivial⟩
        have hff := hf.out
        cases f with
        | zero => exact absurd hff.2 (by simp; omega)
        | succ f => exact ⟨f, Lib.hid ⟨by rw [← hff.1, dbl, if_pos hlt], by rw [Nat.mul_assoc, ← Nat.pow_succ']; exact hff.2⟩⟩
      case measure => simp [intOf]; omega
    · have hlz : ¬ (m : Int) < 2 * (k : Int) := by omega
      have hmk := make61 m (by omega)
      have HS := Lib.hid ((dbl_done hlt).symm.trans hf.out.1)
      clear hf
      go_wp2_with fail
      go_ret2
      refine ⟨_, _, rfl, ?_, Nat.le_succ _, Nat.le_refl _, ((Below.refl _ _).alloc (Nat.le_refl _) _).alloc (by simp) _⟩
      rw [← HS.out]
      exact new_tab wr m k
end Go.Proofs.Ytakhofmnldlppaa
