/- The contracts of the reference's Get and Add at a row of stats. Conditions: the row's names are distinct. -/
import Derived.Test.YtackgcbfpkndjaaI
import Derived.Laws.CopyRow
import Derived.Laws.CopyOwn
namespace Go.Proofs.Ytackgcbfpkndjaa
open Go.RowKit Go.Maps Go.WideMaps

theorem run_copy_sz {P : Program} (w : World) (dT sT ty elem : TypeId) (g dLen dCap : Nat) (a : Addr) (sLen sCap : Nat) (cur : Array Value) (t : TypeId) (cs : List Value) (sz m : Nat)
    (hu : P.underlying dT = some (.slice elem)) (hs : (P.info? elem).map (·.size) = some sz)
    (hg : w.heap[g]? = some (.cells cur t (0, 0))) (hm : Nat.min sLen dLen = m) (hn : cs.length = m * sz)
    (hsrc : ∀ j v, cs[j]? = some v → w.cell? (a.add j) = some v) (hfit : cs.length ≤ cur.size) (h1 : ∀ v ∈ cs, v.oneCell' = true) :
    (Builtin.copy_ #[dT, sT] ty #[.slice (some ⟨g, 0, none⟩) dLen dCap, .slice (some a) sLen sCap]).run P w =
      .ok (goInt m) (w.setRow g (cs ++ cur.toList.drop cs.length).toArray) := by
  have hl := run_loadCells_list (P := P) w a cs hsrc
  have hst := run_storeCells_at P g 0 t cs 0 cur w hg (by simpa using hfit) h1
  simp only [Nat.zero_add, List.take_zero, List.nil_append] at hst
  cases hq : P.info? elem with
  | none => simp [hq] at hs
  | some i =>
    have hi : i.size = sz := by simpa [hq] using hs
    subst hm
    simp [Builtin.copy_, run_underlying hu, Builtin.lenOf, Builtin.firstCells, sizeOf, typeInfo, hq, hi, ← hn, hl, hst]

theorem str_ne (s t : ByteArray) (h : s ≠ t) : (s.toList == t.toList) = false := by
  rw [ByteArray.toList_eq, ByteArray.toList_eq]
  simp only [beq_eq_false_iff_ne]
  exact fun e => h (by cases s; cases t; simp_all)
theorem str_same (s : ByteArray) : (s.toList == s.toList) = true := by simp

/-- The cells of the stats ns, vs lie at block g. -/
def SR (w : World) (g : Nat) (ns : List ByteArray) (vs : List Int) : Prop := ∀ (j : Nat) (u : Value), (statCells ns vs)[j]? = some u → w.cell? ⟨g, j, none⟩ = some u
theorem SR.row {w : World} {g : Nat} {ns : List ByteArray} {vs : List Int} (h : SR w g ns vs) : StatRow w g (ns.zip vs) := fun i s x hi =>
  ⟨h _ _ (statCells_get ns vs i s x hi).1, h _ _ (statCells_get ns vs i s x hi).2⟩
theorem SR.at {w : World} {g : Nat} {ns : List ByteArray} {vs : List Int} (h : SR w g ns vs) {i : Nat} {s : ByteArray} {x : Int} (hi : ns[i]? = some s) (hx : vs[i]? = some x) :
    w.cell? ⟨g, i * 2, none⟩ = some (.string s) ∧ w.cell? ⟨g, i * 2 + 1, none⟩ = some (.int .u64 x) :=
  h.row i s x (List.getElem?_zip_eq_some (z := (s, x)).2 ⟨hi, hx⟩)
theorem SR.below {w w' : World} {g : Nat} {ns : List ByteArray} {vs : List Int} (h : SR w g ns vs) (hb : Below w.heap.size w w') : SR w' g ns vs := fun j u hj =>
  (hb.cell (World.block_lt_of_cell? w _ (h j u hj))).trans (h j u hj)
theorem SR.other {w w' : World} {g m : Nat} {ns : List ByteArray} {vs : List Int} (h : SR w g ns vs) (hg : w.grownBy w' (some m)) (hne : g ≠ m) : SR w' g ns vs := fun j u hj => hg.cell (h j u hj) (fun e => hne (by injection e))

set_option maxHeartbeats 400000 in
theorem ref_get_hit {w : World} {g c : Nat} {ns : List ByteArray} {vs : List Int} (h : SR w g ns vs) (hl : vs.length = ns.length) (hd : ns.Nodup) (hmax : ns.length ≤ 4096) (s : ByteArray) (i : Nat) (x : Int) (hi : ns[i]? = some s) (hx : vs[i]? = some x) :
    Calls Try.prog 16 #[.slice (some ⟨g, 0, none⟩) ns.length c, .string s] w fun e w' => e = .returned (.int .u64 x) ∧ w' = w := by
  have hin : i < ns.length := (List.getElem?_eq_some_iff.1 hi).1
  have H := Lib.hid h
  have HI := Lib.hid hi
  have HX := Lib.hid hx
  have HD := Lib.hid hd
  have HL := Lib.hid hl
  clear h hi hx hd hl
  go_enter Try.func16, Try.ntmps16
  go_wp2
  go_loop [8] (fun v => ∃ k : Nat, k ≤ i ∧ v = .int .i64 k) (fun v => i - (intOf v).toNat)
  case atStart => exact ⟨0, Nat.zero_le _, rfl⟩
  case round =>
    obtain ⟨k, hk, rfl⟩ := hrel
    obtain ⟨t, ht⟩ : ∃ t, ns[k]? = some t := ⟨_, List.getElem?_eq_getElem (l := ns) (i := k) (by omega)⟩
    obtain ⟨y, hy⟩ : ∃ y, vs[k]? = some y := ⟨_, List.getElem?_eq_getElem (l := vs) (i := k) (by have := HL.out; omega)⟩
    obtain ⟨c0, c1⟩ := H.out.at ht hy
    have hkn : (k : Int) < ns.length := by omega
    by_cases hki : k = i
    · subst hki
      rw [HI.out] at ht
      rw [HX.out] at hy
      injection ht with ht
      injection hy with hy
      subst ht hy
      have hb := str_same s
      go_wp2
      go_ret
      exact ⟨rfl, rfl⟩
    · have hne : t ≠ s := by
        intro e
        rw [e] at ht
        exact hki (((List.getElem?_inj (by omega) HD.out).1 (ht.trans HI.out.symm)))
      have hb := str_ne t s hne
      have hlt : k < i := by omega
      clear ht hy hki hne
      go_wp2
      go_round
      case rel => exact ⟨k + 1, by omega, by go_num⟩
      case measure => simp [intOf]; omega

set_option maxHeartbeats 400000 in
theorem ref_get_miss {w : World} {g c : Nat} {ns : List ByteArray} {vs : List Int} (h : SR w g ns vs) (hl : vs.length = ns.length) (hmax : ns.length ≤ 4096) (s : ByteArray) (hi : s ∉ ns) :
    Calls Try.prog 16 #[.slice (some ⟨g, 0, none⟩) ns.length c, .string s] w fun e w' => e = .returned (.int .u64 0) ∧ w' = w := by
  have H := Lib.hid h
  have HI := Lib.hid hi
  have HL := Lib.hid hl
  clear h hi hl
  go_enter Try.func16, Try.ntmps16
  go_wp2
  go_loop [8] (fun v => ∃ k : Nat, k ≤ ns.length ∧ v = .int .i64 k) (fun v => ns.length - (intOf v).toNat)
  case atStart => exact ⟨0, Nat.zero_le _, rfl⟩
  case round =>
    obtain ⟨k, hk, rfl⟩ := hrel
    by_cases hkn : k < ns.length
    · obtain ⟨t, ht⟩ : ∃ t, ns[k]? = some t := ⟨_, List.getElem?_eq_getElem (l := ns) (i := k) (by omega)⟩
      obtain ⟨y, hy⟩ : ∃ y, vs[k]? = some y := ⟨_, List.getElem?_eq_getElem (l := vs) (i := k) (by have := HL.out; omega)⟩
      obtain ⟨c0, c1⟩ := H.out.at ht hy
      have hne : t ≠ s := fun e => HI.out (by rw [← e]; exact List.mem_of_getElem? ht)
      have hb := str_ne t s hne
      clear ht hy hne
      go_wp2
      go_round
      case rel => exact ⟨k + 1, by omega, by go_num⟩
      case measure => simp [intOf]; omega
    · go_wp2
      go_ret
      exact ⟨rfl, rfl⟩

theorem info39s : (Try.prog.info? 39).map (·.size) = some 2 := by kernel_rfl
/-- 'copy' of stats into a new row of as many, at the operation. -/
theorem wpList_copy_stats {w w0 : World} {ops : Array Oper} {rest : List Oper} {o : Oper} {a : Act} {Q : Exit → Act → World → Prop} (hgd : o.guard = none) (d s : Operand)
    (ho : o.op = .call { callee := .builtin .copy, args := #[d, s], argTypes := #[34, 34] }) (g g1 n c1 : Nat) (ns : List ByteArray) (vs : List Int) (hn : n = ns.length) (hl : vs.length = ns.length)
    (hd : a.eval d = .slice (some ⟨g, 0, none⟩) n n) (hs : a.eval s = .slice (some ⟨g1, 0, none⟩) n c1)
    (cur : Array Value) (hg : w.heap[g]? = some (.cells cur 39 (0, 0))) (hcur : cur.size = n * 2) (hsrc : SR w g1 ns vs) (hb : Below w0.heap.size w0 w) (hBg : w0.heap.size ≤ g)
    (h : ∀ w', w'.heap[g]? = some (.cells (statCells ns vs).toArray 39 (0, 0)) → Below w0.heap.size w0 w' → wpList Try.prog ops Q rest (a.put o.dst (goInt n)) w') : wpList Try.prog ops Q (o :: rest) a w := by
  refine wpList_plain hgd fun K hK => ?_
  have hlen := statCells_length ns vs hl
  have hrun := run_copy_sz (P := Try.prog) w 34 34 o.type 39 g n n ⟨g1, 0, none⟩ n c1 cur 39 (statCells ns vs) 2 n Try.underlying34 info39s hg (Nat.min_self n) (by rw [hlen, hn]) (fun j v hj => by
      have h1 := hsrc j v hj
      have e : ((⟨g1, 0, none⟩ : Addr).add j) = ⟨g1, j, none⟩ := by
        simp only [Addr.add, Nat.zero_add]
        split
        · rename_i h0; rw [h0]
        · rfl
      rw [e]; exact h1) (by rw [hlen, hcur, hn]; exact Nat.le_refl _) (fun v hv => by
      obtain ⟨p, _, hp⟩ := List.mem_flatMap.1 hv
      simp at hp
      rcases hp with rfl | rfl <;> rfl)
  rw [List.drop_of_length_le (by rw [Array.length_toList, hlen, hcur, hn]; exact Nat.le_refl _), List.append_nil] at hrun
  unfold Oper.wp
  simp [execOp, ho, resolve, invoke, builtin, hd, hs, hrun, Result.andThen]
  exact hK _ _ (h _ (setRow_heap w g cur _ 39 _ hg) (below_setRow hb hBg _))

def RefPost (w : World) (ns : List ByteArray) (vs : List Int) (r : Bool) (e : Ending) (w' : World) : Prop :=
  ∃ g, e = .returned (.tuple #[.slice (some ⟨g, 0, none⟩) ns.length ns.length, .bool r]) ∧ SR w' g ns vs ∧ g < w'.heap.size ∧ w.heap.size ≤ g ∧ Below w.heap.size w w'
theorem sr_of_block {w : World} {g : Nat} {ns : List ByteArray} {vs : List Int} (h : w.heap[g]? = some (.cells (statCells ns vs).toArray 39 (0, 0))) : SR w g ns vs := fun j u hj => by
  rw [cell_of_row w g j _ _ _ h]; simpa using hj
theorem statCells_set (ns : List ByteArray) (vs : List Int) (i : Nat) (x y : Int) (hl : vs.length = ns.length) (hx : vs[i]? = some y) : statCells ns (vs.set i x) = (statCells ns vs).set (i * 2 + 1) (.int .u64 x) := by
  induction ns generalizing vs i with
  | nil => cases vs with
    | nil => simp at hx
    | cons _ _ => simp at hl
  | cons t r ih =>
    cases vs with
    | nil => simp at hl
    | cons z q =>
      have e : ∀ q' z', statCells (t :: r) (z' :: q') = .string t :: .int .u64 z' :: statCells r q' := by intro q' z'; simp [statCells]
      cases i with
      | zero => simp only [List.set_cons_zero, e]; rfl
      | succ i =>
        simp only [List.set_cons_succ, e]
        rw [ih q i (by simpa using hl) (by simpa using hx), show (i + 1) * 2 = i * 2 + 1 + 1 by omega, List.set_cons_succ]

theorem wrap_over (x n : Int) (h0 : 18446744073709551616 ≤ x + n) (h1 : x + n < 36893488147419103232) : IntKind.u64.wrap (x + n) = x + n - 18446744073709551616 := by
  simp only [IntKind.wrap, IntKind.bits, IntKind.signed]; simp; omega

set_option maxHeartbeats 1000000 in
theorem ref_add_hit {w : World} {g c : Nat} {ns : List ByteArray} {vs : List Int} (h : SR w g ns vs) (hl : vs.length = ns.length) (hd : ns.Nodup) (hmax : ns.length ≤ 4096) (s : ByteArray) (i : Nat) (x n : Int) (hi : ns[i]? = some s) (hx : vs[i]? = some x)
    (hx0 : 0 ≤ x) (hx1 : x ≤ 18446744073709551615) (hn0 : 0 ≤ n) (hn1 : n ≤ 18446744073709551615) :
    Calls Try.prog 15 #[.slice (some ⟨g, 0, none⟩) ns.length c, .string s, .int .u64 n] w fun e w' => RefPost w ns (vs.set i (addTo x n)) true e w' := by
  have hin : i < ns.length := (List.getElem?_eq_some_iff.1 hi).1
  obtain ⟨i0, hi0, hz0, hz1, hz2⟩ := info_parts info39
  have hms : ∀ wx : World, (Instr.makeSlice 34 (.int .i64 ns.length) (.int .i64 ns.length)).run Try.prog wx = .ok (.slice (some ⟨wx.heap.size, 0, none⟩) ns.length ns.length) (wx.alloc (.cells (madeCells #[.string ⟨#[]⟩, .int .u64 0] (ns.length * 2)) 39)) := fun wx => by
    have h := run_make (P := Try.prog) wx 34 39 i0 _ Try.underlying34 hi0 hz0 .i64 .i64 ns.length ns.length (by omega) (by omega) (by rw [hz2]; omega) (by omega)
    rw [h, hz1, Int.toNat_natCast]
    rfl
  have hsrc : SR (w.alloc (.cells (madeCells #[.string ⟨#[]⟩, .int .u64 0] (ns.length * 2)) 39)) g ns vs := h.below ((Below.refl _ _).alloc (Nat.le_refl _) _)
  have HD := Lib.hid hd
  have HL := Lib.hid hl
  have HI := Lib.hid hi
  have HX := Lib.hid hx
  have HS := Lib.hid hsrc
  clear hi0 hz0 hz1 hz2 h hd hl hi hx hsrc
  go_enter Try.func15, Try.ntmps15
  go_wp2_with (with_reducible refine wpList_copy_stats (w0 := w) rfl _ _ rfl w.heap.size g ns.length c ns vs rfl HL.out rfl rfl _ (heap_alloc_new w _) (size_madeCells _ _) HS.out ((Below.refl _ _).alloc (Nat.le_refl _) _) (Nat.le_refl _) ?_; intro w1 hw1 hb1)
  have HW := Lib.hid hw1
  have HB := Lib.hid hb1
  have hgw : w.heap.size < w1.heap.size := lt_of_block hw1
  have HSR := Lib.hid (sr_of_block hw1)
  have hfree := fun j => frozen_of_row w1 w.heap.size j _ _ hw1
  clear hw1 hb1 HS hms
  go_loop [18] (fun v => ∃ k : Nat, k ≤ i ∧ v = .int .i64 k) (fun v => i - (intOf v).toNat)
  case atStart => exact ⟨0, Nat.zero_le _, rfl⟩
  case round =>
    obtain ⟨k, hk, rfl⟩ := hrel
    obtain ⟨t, ht⟩ : ∃ t, ns[k]? = some t := ⟨_, List.getElem?_eq_getElem (l := ns) (i := k) (by omega)⟩
    obtain ⟨y, hy⟩ : ∃ y, vs[k]? = some y := ⟨_, List.getElem?_eq_getElem (l := vs) (i := k) (by have := HL.out; omega)⟩
    obtain ⟨c0, c1⟩ := HSR.out.at ht hy
    have hkn : (k : Int) < ns.length := by omega
    by_cases hki : k = i
    · subst hki
      rw [HI.out] at ht
      rw [HX.out] at hy
      injection ht with ht
      injection hy with hy
      subst ht hy
      have hb := str_same s
      have cf := hfree (k * 2 + 1)
      clear hfree
      have fin : ∀ u, u = addTo x n → RefPost w ns (vs.set k (addTo x n)) true (.returned (.tuple #[.slice (some ⟨w.heap.size, 0, none⟩) ns.length ns.length, .bool true])) (w1.setCell ⟨w.heap.size, k * 2 + 1, none⟩ (.int .u64 u)) := by
        intro u hu
        refine ⟨w.heap.size, rfl, ?_, ?_, Nat.le_refl _, HB.out.setCell (Nat.le_refl _) _⟩
        · refine sr_of_block ?_
          rw [heap_setCell_same w1 _ _ _ _ _ HW.out, statCells_set ns vs k (addTo x n) x HL.out HX.out, hu]
          simp
        · rw [size_setCell]; exact hgw
      have FIN := Lib.hid fin
      clear fin
      by_cases hov : x + n ≤ 18446744073709551615
      · have hlt : ¬ (x + n < n) := by omega
        go_wp2
        go_ret2
        exact FIN.out _ (by unfold addTo; split <;> omega)
      · have hwr := wrap_over x n (by omega) (by omega)
        have hlt : x + n - 18446744073709551616 < n := by omega
        go_wp2
        go_ret2
        exact FIN.out _ (by unfold addTo; split <;> omega)
    · have hne : t ≠ s := by
        intro e
        rw [e] at ht
        exact hki (((List.getElem?_inj (by omega) HD.out).1 (ht.trans HI.out.symm)))
      have hb := str_ne t s hne
      have hlt : k < i := by omega
      clear ht hy hki hne hfree
      go_wp2
      go_round
      case rel => exact ⟨k + 1, by omega, by go_num⟩
      case measure => simp [intOf]; omega

set_option maxHeartbeats 1000000 in
theorem ref_add_miss {w : World} {g c : Nat} {ns : List ByteArray} {vs : List Int} (h : SR w g ns vs) (hl : vs.length = ns.length) (hmax : ns.length ≤ 4096) (s : ByteArray) (n : Int) (hi : s ∉ ns) :
    Calls Try.prog 15 #[.slice (some ⟨g, 0, none⟩) ns.length c, .string s, .int .u64 n] w fun e w' => RefPost w ns vs false e w' := by
  obtain ⟨i0, hi0, hz0, hz1, hz2⟩ := info_parts info39
  have hms : ∀ wx : World, (Instr.makeSlice 34 (.int .i64 ns.length) (.int .i64 ns.length)).run Try.prog wx = .ok (.slice (some ⟨wx.heap.size, 0, none⟩) ns.length ns.length) (wx.alloc (.cells (madeCells #[.string ⟨#[]⟩, .int .u64 0] (ns.length * 2)) 39)) := fun wx => by
    have h := run_make (P := Try.prog) wx 34 39 i0 _ Try.underlying34 hi0 hz0 .i64 .i64 ns.length ns.length (by omega) (by omega) (by rw [hz2]; omega) (by omega)
    rw [h, hz1, Int.toNat_natCast]
    rfl
  have hsrc : SR (w.alloc (.cells (madeCells #[.string ⟨#[]⟩, .int .u64 0] (ns.length * 2)) 39)) g ns vs := h.below ((Below.refl _ _).alloc (Nat.le_refl _) _)
  have HL := Lib.hid hl
  have HI := Lib.hid hi
  have HS := Lib.hid hsrc
  clear hi0 hz0 hz1 hz2 h hl hi hsrc
  go_enter Try.func15, Try.ntmps15
  go_wp2_with (with_reducible refine wpList_copy_stats (w0 := w) rfl _ _ rfl w.heap.size g ns.length c ns vs rfl HL.out rfl rfl _ (heap_alloc_new w _) (size_madeCells _ _) HS.out ((Below.refl _ _).alloc (Nat.le_refl _) _) (Nat.le_refl _) ?_; intro w1 hw1 hb1)
  have HW := Lib.hid hw1
  have HB := Lib.hid hb1
  have hgw : w.heap.size < w1.heap.size := lt_of_block hw1
  have HSR := Lib.hid (sr_of_block hw1)
  clear hw1 hb1 HS hms
  go_loop [18] (fun v => ∃ k : Nat, k ≤ ns.length ∧ v = .int .i64 k) (fun v => ns.length - (intOf v).toNat)
  case atStart => exact ⟨0, Nat.zero_le _, rfl⟩
  case round =>
    obtain ⟨k, hk, rfl⟩ := hrel
    by_cases hkn : k < ns.length
    · obtain ⟨t, ht⟩ : ∃ t, ns[k]? = some t := ⟨_, List.getElem?_eq_getElem (l := ns) (i := k) (by omega)⟩
      obtain ⟨y, hy⟩ : ∃ y, vs[k]? = some y := ⟨_, List.getElem?_eq_getElem (l := vs) (i := k) (by have := HL.out; omega)⟩
      obtain ⟨c0, c1⟩ := HSR.out.at ht hy
      have hne : t ≠ s := fun e => HI.out (by rw [← e]; exact List.mem_of_getElem? ht)
      have hb := str_ne t s hne
      clear ht hy hne
      go_wp2
      go_round
      case rel => exact ⟨k + 1, by omega, by go_num⟩
      case measure => simp [intOf]; omega
    · go_wp2
      go_ret2
      exact ⟨w.heap.size, rfl, HSR.out, hgw, Nat.le_refl _, HB.out⟩
end Go.Proofs.Ytackgcbfpkndjaa
