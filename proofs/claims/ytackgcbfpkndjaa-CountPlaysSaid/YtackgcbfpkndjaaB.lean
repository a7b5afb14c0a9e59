/- What the memory of a Counts holds, stated once, and what keeps it: plain facts with no walk. -/
import Derived.Test.YtackgcbfpkndjaaProg
import Derived.WalkKit
import Derived.KernelRfl
import Derived.Maps.OwnSet
import Derived.Maps.OwnOps
import Derived.Laws.Rows
namespace Go.Proofs.Ytackgcbfpkndjaa
open Go.RowKit Go.Maps

theorem law9 : Keyed Try.prog 9 := string_keyed Try.underlying9
theorem zero3 (w : World) : (zeroValue 3).run Try.prog w = .ok (.int .i64 0) w := by kernel_rfl
theorem zero29 (w : World) : (zeroValue 29).run Try.prog w = .ok (.int .u64 0) w := by kernel_rfl
theorem info59 : (Try.prog.info? 59).map (fun i => (i.zero, i.size, i.bytes)) = some (some (.agg #[.int .u64 0]), 1, 8) := by kernel_rfl
theorem info39 : (Try.prog.info? 39).map (fun i => (i.zero, i.size, i.bytes)) = some (some (.agg #[.string ⟨#[]⟩, .int .u64 0]), 2, 24) := by kernel_rfl
theorem info9 : (Try.prog.info? 9).map (fun i => (i.zero, i.size, i.bytes)) = some (some (.string ⟨#[]⟩), 1, 16) := by kernel_rfl

/-! ### a name's place -/
def key (s : ByteArray) : Lit := .string s.data.toList
theorem key_inj {s t : ByteArray} (h : key s = key t) : s = t := by
  unfold key at h
  injection h with h
  cases s; cases t; simp_all
theorem key_lit (s : ByteArray) : WideAt.IsKeyLit (key s) := by simp [key, WideAt.IsKeyLit]
def foldFrom (m : DataW Unit) (k : Nat) : List ByteArray → DataW Unit
  | [] => m
  | s :: r => foldFrom (m.put (key s) (.lit (.int .i64 k))) (k + 1) r
def atOf (ns : List ByteArray) : DataW Unit := foldFrom (.map []) 0 ns
theorem foldFrom_snoc (ns : List ByteArray) (s : ByteArray) : ∀ m k, foldFrom m k (ns ++ [s]) = (foldFrom m k ns).put (key s) (.lit (.int .i64 (k + ns.length : Nat))) := by
  induction ns with
  | nil => intro m k; rfl
  | cons t r ih => intro m k; simp only [List.cons_append, foldFrom, ih, List.length_cons]; rw [show k + 1 + r.length = k + (r.length + 1) by omega]
theorem atOf_snoc (ns : List ByteArray) (s : ByteArray) : atOf (ns ++ [s]) = (atOf ns).put (key s) (.lit (.int .i64 ns.length)) := by
  have := foldFrom_snoc ns s (.map []) 0
  rwa [Nat.zero_add] at this
theorem has_fold (s : ByteArray) (ns : List ByteArray) : ∀ m k, IsMap m → (Maps.has (foldFrom m k ns) (key s) = true ↔ (Maps.has m (key s) = true ∨ s ∈ ns)) := by
  induction ns with
  | nil => intro m k hm; simp [foldFrom]
  | cons t r ih =>
    intro m k hm
    rw [foldFrom, ih _ _ (hm.put _ _)]
    by_cases h : s = t
    · subst h; rw [has_put_same hm (key_lit s)]; simp
    · rw [has_put_other (fun e => h (key_inj e))]; simp [h]
theorem has_yes {ns : List ByteArray} {s : ByteArray} (h : s ∈ ns) : Maps.has (atOf ns) (key s) = true := (has_fold s ns _ 0 isMap_empty).2 (.inr h)
theorem has_no {ns : List ByteArray} {s : ByteArray} (h : s ∉ ns) : Maps.has (atOf ns) (key s) = false := by
  cases e : Maps.has (atOf ns) (key s) with
  | false => rfl
  | true =>
    rcases (has_fold s ns _ 0 isMap_empty).1 e with h1 | h1
    · cases h1
    · exact absurd h1 h
theorem at_other (s : ByteArray) (z : DataW Unit) (ns : List ByteArray) : ∀ m k, s ∉ ns → (foldFrom m k ns).atKey (key s) z = m.atKey (key s) z := by
  induction ns with
  | nil => intro m k _; rfl
  | cons t r ih =>
    intro m k h
    rw [foldFrom, ih _ _ (fun e => h (List.mem_cons_of_mem _ e)), atKey_put_other (fun e => h (by rw [key_inj e]; exact List.mem_cons_self))]
theorem at_hit (s : ByteArray) (z : DataW Unit) (ns : List ByteArray) : ∀ m k i, IsMap m → ns.Nodup → ns[i]? = some s → (foldFrom m k ns).atKey (key s) z = .lit (.int .i64 (k + i : Nat)) := by
  induction ns with
  | nil => intro m k i _ _ h; simp at h
  | cons t r ih =>
    intro m k i hm hd h
    obtain ⟨hd1, hd2⟩ := List.nodup_cons.1 hd
    rw [foldFrom]
    cases i with
    | zero =>
      simp at h
      subst h
      rw [at_other _ _ _ _ _ hd1, atKey_put_same hm (key_lit t)]
      rfl
    | succ i =>
      rw [ih _ _ i (hm.put _ _) hd2 (by simpa using h), show k + 1 + i = k + (i + 1) by omega]
theorem at_atOf {ns : List ByteArray} {s : ByteArray} {i : Nat} (hd : ns.Nodup) (h : ns[i]? = some s) (z : DataW Unit) : (atOf ns).atKey (key s) z = .lit (.int .i64 (i : Int)) := by
  unfold atOf
  rw [at_hit s z ns _ 0 i isMap_empty hd h, Nat.zero_add]

/-! ### the object -/
def cntCells (vs : List Int) : Array Value := (vs.map (Value.int .u64)).toArray
/-- Block b is a Counts of the names ns, whose counts are vs: the names at bn, the map at bm, the counts at bv. -/
structure CountsAt (w : World) (b bn bm bv : Nat) (ns : List ByteArray) (vs : List Int) : Prop where
  obj : ∃ c, w.heap[b]? = some (.cells #[.slice (some ⟨bn, 0, none⟩) ns.length c, .map (some bm), .slice (some ⟨bv, 0, none⟩) ns.length ns.length] 53 (0, 0))
  nms : ∀ (j : Nat) (s : ByteArray), ns[j]? = some s → w.cell? ⟨bn, j, none⟩ = some (.string s)
  lbn : bn < w.heap.size
  map : w.ownsMap (H := Unit) Try.prog 9 (plainElem Try.prog 3) bm ns.length (atOf ns)
  cnt : w.heap[bv]? = some (.cells (cntCells vs) 59 (0, 0))
  len : vs.length = ns.length
  nod : ns.Nodup
  fit : ∀ s ∈ ns, s.size ≤ maxLen
  wf : ∀ v ∈ vs, 0 ≤ v ∧ v ≤ 18446744073709551615
  short : ns.length ≤ 4096
  ne0 : bv ≠ b
  ne1 : bv ≠ bn
  ne2 : bv ≠ bm

section
variable {w w' : World} {b bn bm bv : Nat} {ns : List ByteArray} {vs : List Int}
theorem CountsAt.lb (h : CountsAt w b bn bm bv ns vs) : b < w.heap.size := by obtain ⟨c, h⟩ := h.obj; exact lt_of_block h
theorem CountsAt.lbv (h : CountsAt w b bn bm bv ns vs) : bv < w.heap.size := lt_of_block h.cnt
theorem CountsAt.lbm (h : CountsAt w b bn bm bv ns vs) : bm < w.heap.size := h.map.lt
theorem CountsAt.keep (h : CountsAt w b bn bm bv ns vs) (e0 : w'.heap[b]? = w.heap[b]?) (e1 : w'.heap[bn]? = w.heap[bn]?) (e2 : w'.heap[bm]? = w.heap[bm]?) (e3 : w'.heap[bv]? = w.heap[bv]?) (hs : w.heap.size ≤ w'.heap.size) :
    CountsAt w' b bn bm bv ns vs := by
  refine { h with obj := ?_, nms := ?_, lbn := Nat.lt_of_lt_of_le h.lbn hs, map := ?_, cnt := by rw [e3]; exact h.cnt }
  · obtain ⟨c, hc⟩ := h.obj; exact ⟨c, by rw [e0]; exact hc⟩
  · intro j s hj; rw [World.cell?_of_block (w := w) e1]; exact h.nms j s hj
  · obtain ⟨es, clock, hb, r⟩ := h.map
    exact ⟨es, clock, by rw [e2]; exact hb, r⟩
theorem CountsAt.below (h : CountsAt w b bn bm bv ns vs) (hb : Below w.heap.size w w') : CountsAt w' b bn bm bv ns vs :=
  h.keep (hb.block _ h.lb) (hb.block _ h.lbn) (hb.block _ h.lbm) (hb.block _ h.lbv) hb.size
theorem CountsAt.cell1 (h : CountsAt w b bn bm bv ns vs) : w.cell? ⟨b, 1, none⟩ = some (.map (some bm)) := by
  obtain ⟨c, hc⟩ := h.obj; rw [cell_of_row w b 1 _ _ _ hc]; rfl
theorem CountsAt.cell2 (h : CountsAt w b bn bm bv ns vs) : w.cell? ⟨b, 2, none⟩ = some (.slice (some ⟨bv, 0, none⟩) ns.length ns.length) := by
  obtain ⟨c, hc⟩ := h.obj; rw [cell_of_row w b 2 _ _ _ hc]; rfl
theorem CountsAt.cell0 (h : CountsAt w b bn bm bv ns vs) : ∃ c, w.cell? ⟨b, 0, none⟩ = some (.slice (some ⟨bn, 0, none⟩) ns.length c) := by
  obtain ⟨c, hc⟩ := h.obj; exact ⟨c, by rw [cell_of_row w b 0 _ _ _ hc]; rfl⟩
theorem CountsAt.cntAt (h : CountsAt w b bn bm bv ns vs) {i : Nat} {x : Int} (hi : vs[i]? = some x) : w.cell? ⟨bv, i, none⟩ = some (.int .u64 x) := by
  rw [cell_of_row w bv i _ _ _ h.cnt]; simp [cntCells, hi]
theorem CountsAt.cntFree (h : CountsAt w b bn bm bv ns vs) (i : Nat) : w.frozen? ⟨bv, i, none⟩ = false := frozen_of_row w bv i _ _ h.cnt
/-- A store into one count. -/
theorem CountsAt.set (h : CountsAt w b bn bm bv ns vs) (i : Nat) (x : Int) (hx : 0 ≤ x ∧ x ≤ 18446744073709551615) : CountsAt (w.setCell ⟨bv, i, none⟩ (.int .u64 x)) b bn bm bv ns (vs.set i x) := by
  have hk : ∀ k, k ≠ bv → (w.setCell ⟨bv, i, none⟩ (.int .u64 x)).heap[k]? = w.heap[k]? := fun k hk => heap_setCell_other w _ k _ hk
  have hsz : (w.setCell ⟨bv, i, none⟩ (.int .u64 x)).heap.size = w.heap.size := by simp [World.setCell]
  refine { h with obj := ?_, nms := ?_, lbn := by rw [hsz]; exact h.lbn, map := ?_, cnt := ?_, len := by rw [List.length_set]; exact h.len, wf := ?_ }
  · obtain ⟨c, hc⟩ := h.obj; exact ⟨c, by rw [hk _ (Ne.symm h.ne0)]; exact hc⟩
  · intro j s hj; rw [World.cell?_of_block (w := w) (hk _ (Ne.symm h.ne1))]; exact h.nms j s hj
  · obtain ⟨es, clock, hb, r⟩ := h.map
    exact ⟨es, clock, by rw [hk _ (Ne.symm h.ne2)]; exact hb, r⟩
  · rw [heap_setCell_same w bv i _ _ _ h.cnt]
    simp [cntCells, List.map_set]
  · intro v hv
    rcases List.mem_or_eq_of_mem_set hv with h1 | rfl
    · exact h.wf v h1
    · exact hx
end

/-- A look-up of a name of which the answer is known, at the operation. -/
theorem wpList_lookup_known {P : Program} (w : World) {ops : Array Oper} {rest : List Oper} {o : Oper} {a : Act} {Q : Exit → Act → World → Prop} (hg : o.guard = none) (m x : Operand) (t : TypeId) (hop : o.op = Op.lookup t m x true)
    (k e : TypeId) (q : IntKind) (K : Keyed P k) (ht : P.underlying t = some (.map k e)) (he : P.underlying e = some (.int q)) (hz : (zeroValue e).run P w = .ok (.int q 0) w) (b n : Nat) (D : DataW Unit)
    (hm : a.eval m = .map (some b)) (hown : w.ownsMap P k (plainElem P e) b n D) (ky : Value) (kl : Lit) (hx : a.eval x = ky) (hkey : keyOf P k ky = some kl)
    (i : Int) (y : Bool) (hi : D.atKey kl (.lit (.int q 0)) = .lit (.int q i)) (hy : Maps.has D kl = y)
    (hK : wpList P ops Q rest (a.put o.dst (.tuple #[.int q i, .bool y])) w) :
    wpList P ops Q (o :: rest) a w :=
  wpList_lookup_own_ok_int w hg m x t hop k e q K ht he hz b n D hm hown ky kl hx hkey (fun c hat _ => by
    rw [hi] at hat
    injection hat with hat
    injection hat with _ hat
    subst hat
    rw [hy]
    exact hK)
end Go.Proofs.Ytackgcbfpkndjaa
