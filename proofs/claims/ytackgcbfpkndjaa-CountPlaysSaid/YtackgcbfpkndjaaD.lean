/- The contracts of a Counts' All and Reset. Conditions: the receiver is nil, or a Counts of distinct names. -/
import Derived.Test.YtackgcbfpkndjaaC
namespace Go.Proofs.Ytackgcbfpkndjaa
open Go.RowKit Go.Maps Go.WideMaps

def statCells (ns : List ByteArray) (vs : List Int) : List Value := (ns.zip vs).flatMap fun p => [.string p.1, .int .u64 p.2]
theorem statCells_length (ns : List ByteArray) (vs : List Int) (h : vs.length = ns.length) : (statCells ns vs).length = ns.length * 2 := by
  induction ns generalizing vs with
  | nil => simp [statCells]
  | cons s r ih =>
    cases vs with
    | nil => simp at h
    | cons x q =>
      have := ih q (by simpa using h)
      simp only [statCells, List.zip_cons_cons, List.flatMap_cons, List.length_append, List.length_cons, List.length_nil] at this ⊢
      omega
theorem statCells_take (ns : List ByteArray) (vs : List Int) (k : Nat) (s : ByteArray) (x : Int) (hs : ns[k]? = some s) (hx : vs[k]? = some x) :
    statCells (ns.take (k + 1)) (vs.take (k + 1)) = statCells (ns.take k) (vs.take k) ++ [.string s, .int .u64 x] := by
  induction ns generalizing vs k with
  | nil => simp at hs
  | cons t r ih =>
    cases vs with
    | nil => simp at hx
    | cons y q =>
      cases k with
      | zero => simp at hs hx; subst hs; subst hx; simp [statCells]
      | succ k =>
        have := ih q k (by simpa using hs) (by simpa using hx)
        simp only [statCells, List.take_succ_cons, List.zip_cons_cons, List.flatMap_cons, List.append_assoc] at this ⊢
        rw [this]

theorem all_nil (w : World) : Calls Try.prog 11 #[.pointer none] w fun e w' => e = .returned (.slice none 0 0) ∧ w = w' := by
  go_enter Try.func11, Try.ntmps11
  go_wp2
  go_ret
  exact ⟨rfl, rfl⟩
theorem reset_nil (w : World) : Calls Try.prog 14 #[.pointer none] w fun e w' => e = .returned (.slice none 0 0) ∧ w = w' := by
  go_enter Try.func14, Try.ntmps14
  go_wp2
  go_ret
  exact ⟨rfl, rfl⟩

def AllPost (w : World) (n : Nat) (cs : List Value) (e : Ending) (w' : World) : Prop := ∃ v, e = .returned v ∧ w'.ownsRow w.heap.size 39 2 v n cs ∧ Below w.heap.size w w'

set_option maxHeartbeats 400000 in
theorem all_any {b bn bm bv : Nat} {ns : List ByteArray} {vs : List Int} {w : World} (h : CountsAt w b bn bm bv ns vs) :
    Calls Try.prog 11 #[.pointer (some ⟨b, 0, none⟩)] w fun e w' => AllPost w ns.length (statCells ns vs) e w' := by
  obtain ⟨i0, hi, hz0, hz1, hz2⟩ := info_parts info39
  obtain ⟨c, c0⟩ := h.cell0
  have hsh := h.short
  have HH := Lib.hid h
  have HL := Lib.hid h.len
  clear h
  go_enter Try.func11, Try.ntmps11
  go_wp2
  go_loopw [3, 14] (fun v i wr => ∃ k : Nat, k ≤ ns.length ∧ i = .int .i64 k ∧ wr.ownsRow w.heap.size 39 2 v k (statCells (ns.take k) (vs.take k)) ∧ Below w.heap.size w wr)
    (fun _ i _ => ns.length - (intOf i).toNat)
  case atStart => exact ⟨0, Nat.zero_le _, rfl, World.ownsRow_nil _ _ _ _, Below.refl _ _⟩
  case round =>
    obtain ⟨k, hk, rfl, hown, hb⟩ := hrel
    by_cases hlt : k < ns.length
    · obtain ⟨s, hs⟩ : ∃ s, ns[k]? = some s := ⟨_, List.getElem?_eq_getElem hlt⟩
      obtain ⟨x, hx⟩ : ∃ x, vs[k]? = some x := ⟨_, List.getElem?_eq_getElem (by have := HL.out; omega)⟩
      have hC := HH.out.below hb
      have c2 := hC.cell2
      have cn := hC.nms k s hs
      have cv := hC.cntAt hx
      have hT := Lib.hid (statCells_take ns vs k s x hs hx)
      have hsz := hb.size
      clear hs hx hC
      go_wp2_with (first
        | (go_at_call 18; refine (load_any _ _ x _ cv).mono ?_; rintro e w' ⟨rfl, rfl⟩)
        | (at_builtin; refine wpList_append_own _ rfl _ _ 34 rfl w.heap.size 39 i0 (.agg #[.string ⟨#[]⟩, .int .u64 0]) 2 24 Try.underlying34 hi hz0 hz1 hz2 rfl (by decide) _ _ _ rfl (hown.alloc _) ⟨wr.heap.size, 0, none⟩ 1 1 [.string s, .int .u64 x] rfl rfl ?c1 ?c2 ?c3 ?c4 ?c5 ?_))
      case c1 =>
        intro j u hj
        match j, hj with
        | 0, hj => simp at hj; subst hj; simp [Addr.add]
        | 1, hj => simp at hj; subst hj; simp [Addr.add]
      case c2 => intro u hu; simp at hu; rcases hu with rfl | rfl <;> rfl
      case c3 => unfold maxLen; omega
      case c4 => omega
      case c5 => simp; omega
      intro v' w1 hown1 hg1 _
      have hb1 : Below w.heap.size w w1 := (hb.alloc hsz _).grown hg1 (by simp; omega) (fun q hq => (hown.lt q hq).1)
      clear hown hg1 hb c2 cn cv
      go_wp2
      go_roundw
      case rel => exact ⟨k + 1, by omega, by go_num, by rw [hT.out]; exact hown1, hb1⟩
      case measure => simp [intOf]; omega
    · go_wp2
      go_ret
      have hkn : k = ns.length := by omega
      subst hkn
      refine ⟨_, rfl, ?_, hb⟩
      rw [List.take_of_length_le (Nat.le_refl _), List.take_of_length_le (by have := HL.out; omega)] at hown
      exact hown

theorem grown_trans {a b c : World} {row : Option Nat} (h : a.grownBy b row) (k : b.grownBy c row) : a.grownBy c row :=
  ⟨k.os.trans h.os, k.tape.trans h.tape, k.output.trans h.output, Nat.le_trans h.size k.size, fun i hi hr => (k.block i (Nat.lt_of_lt_of_le hi h.size) hr).trans (h.block i hi hr)⟩
theorem grown_of_below {a b : World} (h : Below a.heap.size a b) (row : Option Nat) : a.grownBy b row := ⟨h.os, h.tape, h.output, h.size, fun k hk _ => h.block k hk⟩
theorem grown_set (a : World) (p : Addr) (u : Value) : a.grownBy (a.setCell p u) (some p.block) :=
  ⟨rfl, rfl, rfl, by simp [World.setCell], fun k _ hr => heap_setCell_other a p k u (fun e => hr (by rw [e]))⟩
/-- What became of the memory behind a step that writes block r alone (and new ones), a step at a time. -/
theorem grown_more {a b c : World} {r : Nat} {row : Option Nat} (h : a.grownBy b (some r)) (k : b.grownBy c row) (hr : ∀ q, row = some q → q = r ∨ a.heap.size ≤ q) : a.grownBy c (some r) :=
  ⟨k.os.trans h.os, k.tape.trans h.tape, k.output.trans h.output, Nat.le_trans h.size k.size, fun i hi hne => (k.block i (Nat.lt_of_lt_of_le hi h.size) (fun e => by
    rcases hr i e.symm with h1 | h1
    · exact hne (by rw [h1])
    · omega)).trans (h.block i hi hne)⟩

theorem cell_new {W : World} {n : Nat} (h : W.heap.size = n) (cs : Array Value) (t : TypeId) (j : Nat) : (W.alloc (.cells cs t)).cell? ⟨n, j, none⟩ = cs[j]? := by
  subst h
  rw [cell_of_row _ _ j cs t (0, 0) (heap_alloc_new W _)]
theorem size_setCell (W : World) (p : Addr) (u : Value) : (W.setCell p u).heap.size = W.heap.size := by simp [World.setCell]

def zeroTo (k : Nat) (vs : List Int) : List Int := List.replicate k 0 ++ vs.drop k
theorem zeroTo_zero (vs : List Int) : zeroTo 0 vs = vs := by simp [zeroTo]
theorem zeroTo_all (vs : List Int) : zeroTo vs.length vs = List.replicate vs.length 0 := by simp [zeroTo]
theorem zeroTo_get (k : Nat) (vs : List Int) (x : Int) (hx : vs[k]? = some x) : (zeroTo k vs)[k]? = some x := by
  unfold zeroTo
  rw [List.getElem?_append_right (by simp)]
  simpa using hx
theorem zeroTo_set (k : Nat) (vs : List Int) (hk : k < vs.length) : (zeroTo k vs).set k 0 = zeroTo (k + 1) vs := by
  unfold zeroTo
  rw [List.set_append_right _ _ (by simp), List.replicate_succ', List.append_assoc]
  congr 1
  rw [List.length_replicate, Nat.sub_self, List.drop_eq_getElem_cons hk]
  rfl

def ResetPost (w : World) (b bn bm bv : Nat) (ns : List ByteArray) (cs : List Value) (e : Ending) (w' : World) : Prop :=
  ∃ v, e = .returned v ∧ w'.ownsRow w.heap.size 39 2 v ns.length cs ∧ CountsAt w' b bn bm bv ns (List.replicate ns.length 0) ∧ w.grownBy w' (some bv)

set_option maxHeartbeats 400000 in
theorem reset_any {b bn bm bv : Nat} {ns : List ByteArray} {vs : List Int} {w : World} (h : CountsAt w b bn bm bv ns vs) :
    Calls Try.prog 14 #[.pointer (some ⟨b, 0, none⟩)] w fun e w' => ResetPost w b bn bm bv ns (statCells ns vs) e w' := by
  obtain ⟨i0, hi, hz0, hz1, hz2⟩ := info_parts info39
  obtain ⟨c, c0⟩ := h.cell0
  have hsh := h.short
  have hbv := h.lbv
  have HL := Lib.hid h.len
  have HH := Lib.hid h
  clear h
  go_enter Try.func14, Try.ntmps14
  go_wp2
  go_loopw [3, 14] (fun v i wr => ∃ k : Nat, k ≤ ns.length ∧ i = .int .i64 k ∧ wr.ownsRow w.heap.size 39 2 v k (statCells (ns.take k) (vs.take k)) ∧ CountsAt wr b bn bm bv ns (zeroTo k vs) ∧ w.grownBy wr (some bv))
    (fun _ i _ => ns.length - (intOf i).toNat)
  case atStart => exact ⟨0, Nat.zero_le _, rfl, World.ownsRow_nil _ _ _ _, by rw [zeroTo_zero]; exact HH.out, World.grownBy.refl _ _⟩
  case round =>
    obtain ⟨k, hk, rfl, hown, hC, hg⟩ := hrel
    by_cases hlt : k < ns.length
    · obtain ⟨s, hs⟩ : ∃ s, ns[k]? = some s := ⟨_, List.getElem?_eq_getElem hlt⟩
      obtain ⟨x, hx⟩ : ∃ x, vs[k]? = some x := ⟨_, List.getElem?_eq_getElem (by have := HL.out; omega)⟩
      have c2 := hC.cell2
      have cn := hC.nms k s hs
      have cv := hC.cntAt (zeroTo_get k vs x hx)
      have cf := hC.cntFree k
      have hset := Lib.hid (hC.set k 0 (by omega))
      have hT := Lib.hid (statCells_take ns vs k s x hs hx)
      have hsz := hg.size
      have hone : (wr.setCell ⟨bv, k, none⟩ (.int .u64 0)).ownsRow w.heap.size 39 2 u3 k (statCells (ns.take k) (vs.take k)) := ownsRow_setCell_below hown hbv _
      have hg1 := grown_more hg (grown_set wr ⟨bv, k, none⟩ (.int .u64 0)) (fun q hq => .inl (by injection hq with hq; exact hq.symm))
      have HC := Lib.hid hC
      clear hs hx hC hown hg
      go_wp2_with (first
        | (go_at_call 20; refine (swap_any _ _ x 0 _ cv cf).mono ?_; rintro e w' ⟨rfl, rfl⟩)
        | (at_builtin; refine wpList_append_own _ rfl _ _ 34 rfl w.heap.size 39 i0 (.agg #[.string ⟨#[]⟩, .int .u64 0]) 2 24 Try.underlying34 hi hz0 hz1 hz2 rfl (by decide) _ _ _ rfl (hone.alloc _) ⟨wr.heap.size, 0, none⟩ 1 1 [.string s, .int .u64 x] rfl rfl ?c1 ?c2 ?c3 ?c4 ?c5 ?_))
      case c1 =>
        intro j u hj
        match j, hj with
        | 0, hj => simp at hj; subst hj; exact cell_new (size_setCell wr ⟨bv, k, none⟩ (.int .u64 0)) #[.string s, .int .u64 x] 39 0
        | 1, hj => simp at hj; subst hj; exact cell_new (size_setCell wr ⟨bv, k, none⟩ (.int .u64 0)) #[.string s, .int .u64 x] 39 1
      case c2 => intro u hu; simp at hu; rcases hu with rfl | rfl <;> rfl
      case c3 => unfold maxLen; omega
      case c4 => omega
      case c5 => simp; omega
      intro v' w1 hown1 hgr _
      have hb1 : (wr.setCell ⟨bv, k, none⟩ (.int .u64 0)).grownBy w1 u3.ownBlock := grown_trans (World.grownBy_alloc _ _ _) hgr
      have hg2 := grown_more hg1 hb1 (fun q hq => .inr (hone.lt q hq).1)
      have hC2 : CountsAt w1 b bn bm bv ns (zeroTo (k + 1) vs) := by
        have h1 := hset.out
        rw [zeroTo_set k vs (by have := HL.out; omega)] at h1
        have hlow : ∀ q, q < w.heap.size → w1.heap[q]? = (wr.setCell ⟨bv, k, none⟩ (.int .u64 0)).heap[q]? := fun q hq =>
          hb1.block q (Nat.lt_of_lt_of_le hq (by simpa [World.setCell] using hsz)) (fun e => by have := (hone.lt q e.symm).1; omega)
        exact h1.keep (hlow _ HH.out.lb) (hlow _ HH.out.lbn) (hlow _ HH.out.lbm) (hlow _ HH.out.lbv) hb1.size
      clear hgr hb1 hg1 hone hset c2 cn cv cf
      go_wp2
      go_roundw
      case rel => exact ⟨k + 1, by omega, by go_num, by rw [hT.out]; exact hown1, hC2, hg2⟩
      case measure => simp [intOf]; omega
    · go_wp2
      go_ret
      have hkn : k = ns.length := by omega
      subst hkn
      refine ⟨_, rfl, ?_, ?_, hg⟩
      · rw [List.take_of_length_le (Nat.le_refl _), List.take_of_length_le (by have := HL.out; omega)] at hown
        exact hown
      · have hz := zeroTo_all vs
        rw [HL.out] at hz
        rw [← hz]
        exact hC
end Go.Proofs.Ytackgcbfpkndjaa
