/- The reference's table in memory; the contract of its New. Conditions: none. -/
import Derived.Test.YtakhofmnldlppaaU
namespace Go.Proofs.Ytakhofmnldlppaa
open Go.RowKit

def cellsR (s : S) : List Value := [.bool s.used, .string s.key, .int .i64 s.v]
theorem lenR (s : S) : (cellsR s).length = 3 := rfl
def cellsRL (L : List S) : Array Value := (L.flatMap cellsR).toArray
theorem cellsRL_get (L : List S) {i j : Nat} {x : S} (h : L[i]? = some x) (hj : j < 3) : (cellsRL L)[i * 3 + j]? = (cellsR x)[j]? := by
  unfold cellsRL
  rw [List.getElem?_toArray]
  exact flat_get lenR L i j x h hj
/-- The reference's slots L lie at block g. -/
def RefAt (w : World) (g : Nat) (L : List S) : Prop := w.heap[g]? = some (.cells (cellsRL L) 52 (0, 0))
theorem RefAt.lt {w : World} {g : Nat} {L : List S} (h : RefAt w g L) : g < w.heap.size := lt_of_block h
theorem RefAt.below {w w' : World} {g : Nat} {L : List S} (h : RefAt w g L) (hb : Below w.heap.size w w') : RefAt w' g L := (hb.block _ h.lt).trans h
theorem RefAt.at {w : World} {g : Nat} {L : List S} (h : RefAt w g L) {i : Nat} {x : S} (hx : L[i]? = some x) :
    w.cell? ⟨g, i * 3, none⟩ = some (.bool x.used) ∧ w.cell? ⟨g, i * 3 + 1, none⟩ = some (.string x.key) ∧ w.cell? ⟨g, i * 3 + 2, none⟩ = some (.int .i64 x.v) :=
  ⟨by rw [cell_of_row w g _ _ _ _ h]; exact cellsRL_get L hx (j := 0) (by decide), by rw [cell_of_row w g _ _ _ _ h]; exact cellsRL_get L hx (j := 1) (by decide), by rw [cell_of_row w g _ _ _ _ h]; exact cellsRL_get L hx (j := 2) (by decide)⟩
theorem RefAt.free {w : World} {g : Nat} {L : List S} (h : RefAt w g L) (i : Nat) : w.frozen? ⟨g, i, none⟩ = false := frozen_of_row w g i _ _ h
theorem RefAt.put {w : World} {g : Nat} {L : List S} (h : RefAt w g L) {i j : Nat} {x y : S} {u : Value} (hx : L[i]? = some x) (hj : j < 3) (he : cellsR y = (cellsR x).set j u) : RefAt (w.setCell ⟨g, i * 3 + j, none⟩ u) g (L.set i y) := by
  unfold RefAt
  rw [heap_setCell_same w g _ _ _ _ h]
  unfold cellsRL
  rw [flat_set lenR j u L i x y hx hj he]
  simp
theorem RefAt.put3 {w : World} {g : Nat} {L : List S} (h : RefAt w g L) {i : Nat} {x : S} (hx : L[i]? = some x) (y : S) :
    RefAt (((w.setCell ⟨g, i * 3, none⟩ (.bool y.used)).setCell ⟨g, i * 3 + 1, none⟩ (.string y.key)).setCell ⟨g, i * 3 + 2, none⟩ (.int .i64 y.v)) g (L.set i y) := by
  have hl := (List.getElem?_eq_some_iff.1 hx).1
  have h1 := h.put (y := ⟨y.used, x.key, y.home, x.v⟩) (u := .bool y.used) hx (show 0 < 3 by decide) rfl
  have h2 := h1.put (i := i) (x := ⟨y.used, x.key, y.home, x.v⟩) (y := ⟨y.used, y.key, y.home, x.v⟩) (u := .string y.key) (by simp [hl]) (show 1 < 3 by decide) rfl
  rw [List.set_set] at h2
  have h3 := h2.put (i := i) (x := ⟨y.used, y.key, y.home, x.v⟩) (y := ⟨y.used, y.key, y.home, y.v⟩) (u := .int .i64 y.v) (by simp [hl]) (show 2 < 3 by decide) rfl
  rw [List.set_set] at h3
  exact h3
theorem info52 : (Try.prog.info? 52).map (fun i => (i.zero, i.size, i.bytes)) = some (some (.agg #[.bool false, .string ⟨#[]⟩, .int .i64 0]), 3, 32) := by kernel_rfl
theorem make41 (m : Nat) (hm : m ≤ 4096) : ∀ wx : World, (Instr.makeSlice 41 (.int .i64 m) (.int .i64 m)).run Try.prog wx = .ok (.slice (some ⟨wx.heap.size, 0, none⟩) m m) (wx.alloc (.cells (cellsRL (blank m)) 52)) := fun wx => by
  obtain ⟨i0, hi, hz0, hz1, hz2⟩ := info_parts info52
  have h := run_make (P := Try.prog) wx 41 52 i0 _ Try.underlying41 hi hz0 .i64 .i64 m m (by omega) (by omega) (by rw [hz2]; omega) (by omega)
  rw [h, hz1, Int.toNat_natCast, show (Value.agg #[.bool false, .string ⟨#[]⟩, .int .i64 0]).cells = (cellsR zeroS).toArray from rfl, made_rep cellsR (by decide) lenR]
  rfl
/-- The reference's table as a value. -/
def refV (g m most : Nat) : Value := .agg #[.slice (some ⟨g, 0, none⟩) m m, .int .i64 most]
def RNewPost (w : World) (k : Nat) (e : Ending) (w' : World) : Prop := ∃ g, e = .returned (.tuple #[.agg #[.slice (some ⟨g, 0, none⟩) (slotsFor k) (slotsFor k), .int .i64 k], .int .i64 0]) ∧ RefAt w' g (blank (slotsFor k)) ∧ w.heap.size ≤ g ∧ Below w.heap.size w w'
theorem results_cell_tmp_row {P : Program} {fn : Func} {p u : Tmp} {ty : TypeId} (h : fn.results = #[.cell p ty, .tmp u]) (tmps : Array Value) (w : World) (g : Nat) (t : TypeId) (cs : Array Value) (fr : Nat × Nat) (d : TypeDesc)
    (hp : tmps.getD p undef = .pointer (some ⟨g, 0, none⟩)) (hg : w.heap[g]? = some (.cells cs t fr))
    (hu : P.underlying ty = some d) (hd : (match d with | .struct _ | .array _ _ => true | _ => false) = true) (hi : (P.info? ty).map (·.size) = some cs.size) :
    (results fn tmps).run P w = .ok (.tuple #[.agg cs, tmps.getD u undef]) w := by
  have hp' : tmps[p]?.getD undef = .pointer (some ⟨g, 0, none⟩) := by simpa using hp
  simp [results, h, hp', asAddr, run_loadVar_row w g t ty cs fr d hg hu hd hi]
theorem results_tmp_cell_row {P : Program} {fn : Func} {p u : Tmp} {ty : TypeId} (h : fn.results = #[.tmp u, .cell p ty]) (tmps : Array Value) (w : World) (g : Nat) (t : TypeId) (cs : Array Value) (fr : Nat × Nat) (d : TypeDesc)
    (hp : tmps.getD p undef = .pointer (some ⟨g, 0, none⟩)) (hg : w.heap[g]? = some (.cells cs t fr))
    (hu : P.underlying ty = some d) (hd : (match d with | .struct _ | .array _ _ => true | _ => false) = true) (hi : (P.info? ty).map (·.size) = some cs.size) :
    (results fn tmps).run P w = .ok (.tuple #[tmps.getD u undef, .agg cs]) w := by
  have hp' : tmps[p]?.getD undef = .pointer (some ⟨g, 0, none⟩) := by simpa using hp
  simp [results, h, hp', asAddr, run_loadVar_row w g t ty cs fr d hg hu hd hi]
theorem info43 : (Try.prog.info? 43).map (·.size) = some 2 := by kernel_rfl
theorem box_set {w : World} {b : Nat} {u v u' v' : Value} (h : w.heap[b]? = some (.cells #[u, v] 43 (0, 0))) : ((w.setCell ⟨b, 0, none⟩ u').setCell ⟨b, 1, none⟩ v').heap[b]? = some (.cells #[u', v'] 43 (0, 0)) := by
  have h1 := heap_setCell_same w b 0 _ _ (v := u') h
  rw [heap_setCell_same _ b 1 _ _ _ h1]
  rfl
theorem zero_two {w : World} {b : Nat} {t : TypeId} {u v : Value} (h : w.heap[b]? = some (.cells #[u, v] t (0, 0))) : w.cell? ⟨b, 0, none⟩ = some u ∧ w.cell? ⟨b, 1, none⟩ = some v ∧ w.frozen? ⟨b, 0, none⟩ = false ∧ w.frozen? ⟨b, 1, none⟩ = false :=
  ⟨by rw [cell_of_row w b 0 _ _ _ h]; rfl, by rw [cell_of_row w b 1 _ _ _ h]; rfl, frozen_of_row w b 0 _ _ h, frozen_of_row w b 1 _ _ h⟩
theorem rnew_bad (k : Int) (h : k < 1 ∨ 1024 < k) (w : World) : Calls Try.prog 16 #[.int .i64 k] w fun e w' => e = .returned (.tuple #[.agg #[.slice none 0 0, .int .i64 0], .int .i64 1]) ∧ Below w.heap.size w w' := by
  have hz := heap_alloc_new w (.cells #[.slice none 0 0, .int .i64 0] 43)
  have HZ := Lib.hid hz
  clear hz
  rcases h with h | h
  · go_enter Try.func16, Try.ntmps16
    go_wp2
    refine bodyPost_ret (results_cell_tmp_row rfl _ _ w.heap.size 43 _ (0, 0) _ rfl HZ.out Try.underlying43 rfl info43) rfl ?_
    exact ⟨rfl, (Below.refl _ _).alloc (Nat.le_refl _) _⟩
  · have h0 : ¬ k < 1 := by omega
    go_enter Try.func16, Try.ntmps16
    go_wp2
    refine bodyPost_ret (results_cell_tmp_row rfl _ _ w.heap.size 43 _ (0, 0) _ rfl HZ.out Try.underlying43 rfl info43) rfl ?_
    exact ⟨rfl, (Below.refl _ _).alloc (Nat.le_refl _) _⟩
set_option maxHeartbeats 1000000 in
theorem rnew_any (k : Nat) (h0 : 1 ≤ k) (h1 : k ≤ 1024) (w : World) : Calls Try.prog 16 #[.int .i64 k] w fun e w' => RNewPost w k e w' := by
  have hk0 : ¬ (k : Int) < 1 := by omega
  have hk1 : ¬ (1024 : Int) < (k : Int) := by omega
  have h2k : slotsFor k ≤ 2048 := (good_blank h0 h1).two.2 |> fun h => by rw [len_blank] at h; exact h
  have hlo := (slotsFor_range h0 h1).1
  have HS := Lib.hid (And.intro h2k hlo)
  clear h2k hlo
  go_enter Try.func16, Try.ntmps16
  go_wp2_with fail
  obtain ⟨wa, hwa⟩ : ∃ wa, wa = w.alloc (.cells #[.slice none 0 0, .int .i64 0] 43) := ⟨_, rfl⟩
  have hbox : wa.heap[w.heap.size]? = some (.cells #[.slice none 0 0, .int .i64 0] 43 (0, 0)) := by rw [hwa]; exact heap_alloc_new w _
  have hba : Below w.heap.size w wa := by rw [hwa]; exact (Below.refl _ _).alloc (Nat.le_refl _) _
  have HBOX := Lib.hid hbox
  have HBA := Lib.hid hba
  rw [← hwa]
  clear hwa hbox hba
  go_loopw [4] (fun v wr => ∃ m : Nat, 1 ≤ m ∧ v = .int .i64 m ∧ m < 4 * k ∧ m ≤ 2048 ∧ (∃ f, Hid (dbl k f m = slotsFor k ∧ 2 * k ≤ m * 2 ^ f)) ∧ wr = wa) (fun v _ => 2 * k - (intOf v).toNat)
  case atStart => exact ⟨1, Nat.le_refl _, rfl, by omega, by omega, ⟨11, Lib.hid ⟨rfl, by omega⟩⟩, rfl⟩
  case round =>
    obtain ⟨m, hm, rfl, hm4, hm2, ⟨f, hf⟩, rfl⟩ := hrel
    have h5 : (m : Int) < 5000 := by omega
    by_cases hlt : m < 2 * k
    · have hlz : ¬ ((k : Int) + (k : Int)) ≤ (m : Int) := by omega
      have hm22 : m * 2 ≤ 2048 := by
        have hff := hf.out
        cases f with
        | zero => exact absurd hff.2 (by simp; omega)
        | succ f =>
          rw [dbl, if_pos hlt] at hff
          have h3 := HS.out.1
          rw [← hff.1] at h3
          have h4 : ∀ f m, m ≤ dbl k f m := by
            intro f
            induction f with
            | zero => intro m; exact Nat.le_refl _
            | succ f ih => intro m; rw [dbl]; split; exact Nat.le_trans (by omega) (ih (m * 2)); exact Nat.le_refl _
          exact Nat.le_trans (h4 f _) h3
      go_wp2_with fail
      go_roundw
      case rel =>
        refine ⟨m * 2, by omega, by go_num, by omega, hm22, ?_, trivial⟩
        have hff := hf.out
        cases f with
        | zero => exact absurd hff.2 (by simp; omega)
        | succ f => exact ⟨f, Lib.hid ⟨by rw [← hff.1, dbl, if_pos hlt], by rw [Nat.mul_assoc, ← Nat.pow_succ']; exact hff.2⟩⟩
      case measure => simp [intOf]; omega
    · have hlz : ((k : Int) + (k : Int)) ≤ (m : Int) := by omega
      have hmk := make41 m (by omega)
      have HE := Lib.hid ((dbl_done hlt).symm.trans hf.out.1)
      clear hf
      have hbx : (wr.alloc (.cells (cellsRL (blank m)) 52)).heap[w.heap.size]? = some (.cells #[.slice none 0 0, .int .i64 0] 43 (0, 0)) := (((Below.refl _ _).alloc (Nat.le_refl _) _).block _ (lt_of_block HBOX.out)).trans HBOX.out
      obtain ⟨z0, z1, z2, z3⟩ := zero_two hbx
      have hfin := box_set hbx (u' := .slice (some ⟨wr.heap.size, 0, none⟩) m m) (v' := .int .i64 k)
      have hrow : RefAt (wr.alloc (.cells (cellsRL (blank m)) 52)) wr.heap.size (blank m) := heap_alloc_new wr _
      have HFIN := Lib.hid hfin
      have HROW := Lib.hid hrow
      have hne : w.heap.size ≠ wr.heap.size := Nat.ne_of_lt (lt_of_block HBOX.out)
      have HNE := Lib.hid hne
      clear hbx hfin hrow hne
      go_wp2_with fail
      refine bodyPost_ret (results_cell_tmp_row rfl _ _ w.heap.size 43 _ (0, 0) _ rfl HFIN.out Try.underlying43 rfl info43) rfl ?_
      refine ⟨wr.heap.size, by rw [← HE.out]; rfl, ?_, HBA.out.size, ?_⟩
      · rw [← HE.out]
        unfold RefAt
        rw [heap_setCell_other _ _ _ _ HNE.out.symm, heap_setCell_other _ _ _ _ HNE.out.symm]
        exact HROW.out
      · exact ((HBA.out.alloc HBA.out.size _).setCell (Nat.le_refl _) _).setCell (Nat.le_refl _) _
end Go.Proofs.Ytakhofmnldlppaa
