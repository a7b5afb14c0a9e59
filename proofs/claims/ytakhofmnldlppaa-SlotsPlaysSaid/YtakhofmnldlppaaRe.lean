/- The contract of the reference's copied. Conditions: 1 to 2048 slots. -/
import Derived.Test.YtakhofmnldlppaaRd
namespace Go.Proofs.Ytakhofmnldlppaa
open Go.RowKit

theorem run_copy_sz {P : Program} (w : World) (dT sT ty elem : TypeId) (g dLen dCap : Nat) (a : Addr) (sLen sCap : Nat) (cur : Array Value) (t : TypeId) (cs : List Value) (sz m : Nat)
    (hu : P.underlying dT = some (.slice elem)) (hs : (P.info? elem).map (·.size) = some sz)
    (hg : w.heap[g]? = some (.cells cur t (0, 0))) (hm : Nat.min sLen dLen = m) (hn : cs.length = m * sz)
    (hsrc : ∀ j v, cs[j]? = some v → w.cell? (a.add j) = some v) (hfit : cs.length ≤ cur.size) (h1 : ∀ v ∈ cs, v.oneCell' = true) :
    (Builtin.copy_ #[dT, sT] ty #[.slice (some ⟨g, 0, none⟩) dLen dCap, .slice (some a) sLen sCap]).run P w =
      .ok (goInt m) (w.setRow g (cs ++ cur.toList.drop cs.length).toArray) := by
  have hl := run_loadCells_list (P := P) w a cs hsrc
  have hst := run_storeCells_at P g 0 t cs 0 cur w hg (by simpa using hfit) h1
  simp only [Nat.zero_add, List.take_zero, List.nil_append] at hst
  cases hq : P.info? elem with
  | none => simp [hq] at hs
  | some i =>
    have hi : i.size = sz := by simpa [hq] using hs
    subst hm
    simp [Builtin.copy_, run_underlying hu, Builtin.lenOf, Builtin.firstCells, sizeOf, typeInfo, hq, hi, ← hn, hl, hst]
theorem info52s : (Try.prog.info? 52).map (·.size) = some 3 := by kernel_rfl
theorem cellsR_one (L : List S) : ∀ u ∈ L.flatMap cellsR, u.oneCell' = true := by
  intro u hu
  obtain ⟨x, _, hx⟩ := List.mem_flatMap.1 hu
  simp [cellsR] at hx
  rcases hx with rfl | rfl | rfl <;> rfl
/-- A copy of the reference's slots into as many, at the operation. -/
theorem wpList_copy_ref {w : World} {ops : Array Oper} {rest : List Oper} {o : Oper} {a : Act} {Q : Exit → Act → World → Prop} (hgd : o.guard = none) (d s : Operand)
    (ho : o.op = .call { callee := .builtin .copy, args := #[d, s], argTypes := #[41, 41] }) (b g m : Nat) (L : List S) (hl : L.length = m)
    (hd : a.eval d = .slice (some ⟨b, 0, none⟩) m m) (hs : a.eval s = .slice (some ⟨g, 0, none⟩) m m)
    (hb : RefAt w b (blank m)) (hsrc : RefAt w g L)
    (h : ∀ w', RefAt w' b L → w.grownBy w' (some b) → wpList Try.prog ops Q rest (a.put o.dst (goInt m)) w') : wpList Try.prog ops Q (o :: rest) a w := by
  refine wpList_plain hgd fun K hK => ?_
  have hlen : (L.flatMap cellsR).length = m * 3 := by rw [flat_len lenR, hl]
  have hcur : (cellsRL (blank m)).size = m * 3 := by
    unfold cellsRL
    rw [List.size_toArray, flat_len lenR, len_blank]
  have hrun := run_copy_sz (P := Try.prog) w 41 41 o.type 52 b m m ⟨g, 0, none⟩ m m (cellsRL (blank m)) 52 (L.flatMap cellsR) 3 m Try.underlying41 info52s hb (Nat.min_self m) hlen (fun j v hj => by
      rw [add_at, Nat.zero_add, cell_of_row w g j _ _ _ hsrc]
      unfold cellsRL
      rw [List.getElem?_toArray]
      exact hj) (by rw [hlen, hcur]; exact Nat.le_refl _) (cellsR_one L)
  rw [List.drop_of_length_le (by rw [Array.length_toList, hlen, hcur]; exact Nat.le_refl _), List.append_nil] at hrun
  unfold Oper.wp
  simp [execOp, ho, resolve, invoke, builtin, hd, hs, hrun, Result.andThen]
  exact hK _ _ (h _ (setRow_heap w b _ _ 52 _ hb) ⟨rfl, rfl, rfl, by simp, fun k _ hk => setRow_other w b k _ (fun e => hk (by rw [e]))⟩)
def CopiedPost (w : World) (L : List S) (mv : Int) (e : Ending) (w' : World) : Prop := ∃ g, e = .returned (.agg #[.slice (some ⟨g, 0, none⟩) L.length L.length, .int .i64 mv]) ∧ RefAt w' g L ∧ w.heap.size ≤ g ∧ Below w.heap.size w w'
set_option maxHeartbeats 1000000 in
theorem copied_any {w : World} {g : Nat} {L : List S} (h : RefAt w g L) (h1 : L.length ≤ 2048) (mv : Int) :
    Calls Try.prog 27 #[.agg #[.slice (some ⟨g, 0, none⟩) L.length L.length, .int .i64 mv]] w fun e w' => CopiedPost w L mv e w' := by
  unfold CopiedPost
  obtain ⟨m, hml⟩ : ∃ m, L.length = m := ⟨_, rfl⟩
  rw [hml] at h1 ⊢
  have HM := Lib.hid hml
  have hmk := make41 m (by omega)
  obtain ⟨w1, hw1⟩ : ∃ w1, w1 = w.alloc (.cells #[.slice (some ⟨g, 0, none⟩) m m, .int .i64 mv] 43) := ⟨_, rfl⟩
  obtain ⟨w2, hw2⟩ : ∃ w2, w2 = w1.alloc (.cells #[.slice none 0 0, .int .i64 0] 43) := ⟨_, rfl⟩
  obtain ⟨w3, hw3⟩ : ∃ w3, w3 = w2.alloc (.cells (cellsRL (blank m)) 52) := ⟨_, rfl⟩
  have s1 : w1.heap.size = w.heap.size + 1 := by rw [hw1]; exact size_alloc _ _
  have s2 : w2.heap.size = w.heap.size + 1 + 1 := by rw [hw2, size_alloc, s1]
  have hb1 : w1.heap[w.heap.size]? = some (.cells #[.slice (some ⟨g, 0, none⟩) m m, .int .i64 mv] 43 (0, 0)) := by rw [hw1]; exact heap_alloc_new w _
  have k2 : Below w1.heap.size w1 w2 := by rw [hw2]; exact (Below.refl _ _).alloc (Nat.le_refl _) _
  have k3 : Below w2.heap.size w2 w3 := by rw [hw3]; exact (Below.refl _ _).alloc (Nat.le_refl _) _
  have k1 : Below w.heap.size w w1 := by rw [hw1]; exact (Below.refl _ _).alloc (Nat.le_refl _) _
  have b2 : w2.heap[w.heap.size + 1]? = some (.cells #[.slice none 0 0, .int .i64 0] 43 (0, 0)) := by rw [← s1, hw2]; exact heap_alloc_new w1 _
  have r3 : RefAt w3 (w.heap.size + 1 + 1) (blank m) := by rw [← s2, hw3]; exact heap_alloc_new w2 _
  have c1 : w3.heap[w.heap.size]? = some (.cells #[.slice (some ⟨g, 0, none⟩) m m, .int .i64 mv] 43 (0, 0)) := (k3.block _ (by omega)).trans ((k2.block _ (by omega)).trans hb1)
  have c2 : w3.heap[w.heap.size + 1]? = some (.cells #[.slice none 0 0, .int .i64 0] 43 (0, 0)) := (k3.block _ (by omega)).trans b2
  have hg := h.lt
  have rg : RefAt w3 g L := (((h.below k1).below k2).below k3)
  have kb : Below w.heap.size w w3 := (k1.trans (k2.mono k1.size)).trans (k3.mono (by omega))
  have z0 := (zero_two hb1).1
  have y0 := cell_keep k2 z0
  obtain ⟨x0, x1, x2, x3⟩ := zero_two c1
  have R3 := Lib.hid r3
  have RG := Lib.hid rg
  have C1 := Lib.hid c1
  have C2 := Lib.hid c2
  have KB := Lib.hid kb
  have S2 := Lib.hid s2
  have HGL := Lib.hid hg
  clear h hml s1 hb1 k2 k3 k1 b2 r3 c1 c2 rg kb hg s2
  subst hw3 hw2 hw1
  go_enter Try.func27, Try.ntmps27
  go_wp2_with (first
    | (with_reducible refine wpList_copy_ref rfl _ _ rfl (w.heap.size + 1 + 1) g m L HM.out rfl rfl R3.out RG.out ?_)
    | fail)
  intro w5 hr5 hg5
  have R5 := Lib.hid hr5
  have D1 := (hg5.block _ (lt_of_block C1.out) (fun e => by injection e with e; omega)).trans C1.out
  have D2 := (hg5.block _ (lt_of_block C2.out) (fun e => by injection e with e; omega)).trans C2.out
  have KB5 := Lib.hid (KB.out.grown hg5 KB.out.size (fun q hq => by injection hq with hq; omega))
  obtain ⟨t0, t1, t2, t3⟩ := zero_two D1
  obtain ⟨v0, v1, v2, v3⟩ := zero_two D2
  have hF := box_set (w := w5.setCell ⟨w.heap.size, 0, none⟩ (.slice (some ⟨w.heap.size + 1 + 1, 0, none⟩) m m)) (b := w.heap.size + 1) ((heap_setCell_other w5 _ _ _ (by show w.heap.size + 1 ≠ w.heap.size; omega)).trans D2) (u' := .slice (some ⟨w.heap.size + 1 + 1, 0, none⟩) m m) (v' := .int .i64 mv)
  have HF := Lib.hid hF
  clear hr5 hg5 R3 RG C1 C2 KB z0 y0 x0 x1 x2 x3 hmk D1 D2 hF
  go_wp2_with fail
  refine bodyPost_ret (results_cell_row rfl _ _ (w.heap.size + 1) 43 _ (0, 0) _ rfl HF.out Try.underlying43 rfl info43) rfl ?_
  refine ⟨w.heap.size + 1 + 1, rfl, ?_, by omega, ((KB5.out.setCell (Nat.le_refl _) _).setCell (Nat.le_succ _) _).setCell (Nat.le_succ _) _⟩
  unfold RefAt
  rw [heap_setCell_other _ _ _ _ (by show w.heap.size + 1 + 1 ≠ w.heap.size + 1; omega), heap_setCell_other _ _ _ _ (by show w.heap.size + 1 + 1 ≠ w.heap.size + 1; omega), heap_setCell_other _ _ _ _ (by show w.heap.size + 1 + 1 ≠ w.heap.size; omega)]
  exact R5.out
end Go.Proofs.Ytakhofmnldlppaa
