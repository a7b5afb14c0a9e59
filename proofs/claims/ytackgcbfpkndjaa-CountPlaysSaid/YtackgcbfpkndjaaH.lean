/- How an Op reads, and what a map of numbers under names holds: plain facts with no walk. -/
import Derived.Test.YtackgcbfpkndjaaF
import Derived.Test.YtackgcbfpkndjaaV
import Derived.OpenShut
namespace Go.Proofs.Ytackgcbfpkndjaa
open Go.RowKit Go.Maps Go.WideMaps Go.ChangeShapes Go.WideShapes Go.Deep

structure OpV where
  r : Bool
  s : ByteArray
  n : Int
def cells37 (o : OpV) : List Value := [.bool o.r, .string o.s, .int .u64 o.n]
def ok37 (o : OpV) : Prop := o.s.size ≤ maxLen ∧ 0 ≤ o.n ∧ o.n ≤ 18446744073709551615
theorem cof37 : Try.prog.cellsOf 37 = 3 := by kernel_rfl
theorem cof4 : Try.prog.cellsOf 4 = 1 := by kernel_rfl
theorem cof9 : Try.prog.cellsOf 9 = 1 := by kernel_rfl
theorem cof29 : Try.prog.cellsOf 29 = 1 := by kernel_rfl
theorem shape37 {H : Type} {enc : TypeId × Value → H} {w : World} {base : Nat} {spare : Nat → Bool} {held : Bool} : ∀ n cs x, DataW.trod enc Try.prog w base spare held n 37 cs = some x → ∃ y, cs = cells37 y ∧ ok37 y := by
  intro n cs x h
  obtain ⟨xs, m, _, _, hl, hx, hf⟩ := DataW.trod_struct Try.underlying37 h
  have hl3 : cs.length = 3 := hl.trans cof37
  have hx3 : xs.length = 3 := hx
  match cs, hl3, xs, hx3 with
  | [c0, c1, c2], _, [x0, x1, x2], _ =>
    have h0 := hf 0 _ rfl
    have h1 := hf 1 _ rfl
    have h2 := hf 2 _ rfl
    obtain ⟨r, e0, _⟩ := DataW.trod_bool Try.underlying4 h0
    obtain ⟨s, e1, _, hs⟩ := DataW.trod_string Try.underlying9 h1
    obtain ⟨q, e2, _, hq⟩ := DataW.trod_int Try.underlying29 h2
    injection e0 with e0
    injection e1 with e1
    injection e2 with e2
    subst e0 e1 e2
    exact ⟨⟨r, s, q⟩, rfl, hs, bounds_u64 hq⟩

/-- Under s the map D has v. -/
def At (D : DataW Unit) (s : ByteArray) (v : Int) : Prop := D.atKey (key s) (.lit (.int .u64 0)) = .lit (.int .u64 v)
theorem at_empty (s : ByteArray) : At (.map []) s 0 := rfl
theorem at_put {D : DataW Unit} {s : ByteArray} {v : Int} (h : IsMap D) : At (D.put (key s) (.lit (.int .u64 v))) s v := by
  unfold At; rw [atKey_put_same h (key_lit s)]
theorem at_put_ne {D : DataW Unit} {s t : ByteArray} {u v : Int} (hne : s ≠ t) (h : At D s v) : At (D.put (key t) (.lit (.int .u64 u))) s v := by
  unfold At; rw [atKey_put_other (fun e => hne (key_inj e))]; exact h

abbrev NumMap (w : World) (m n : Nat) (D : DataW Unit) : Prop := w.ownsMap (H := Unit) Try.prog 9 (plainElem Try.prog 29) m n D

/-- A look-up of a number of which the answer is known, at the operation. -/
theorem wpList_num_known (w : World) {ops : Array Oper} {rest : List Oper} {o : Oper} {a : Act} {Q : Exit → Act → World → Prop} (hg : o.guard = none) (m x : Operand) (hop : o.op = Op.lookup 47 m x false)
    (b n : Nat) (D : DataW Unit) (hm : a.eval m = .map (some b)) (hown : NumMap w b n D) (s : ByteArray) (hx : a.eval x = .string s) (hs : s.size ≤ maxLen) (v : Int) (hv : At D s v)
    (hK : wpList Try.prog ops Q rest (a.put o.dst (.int .u64 v)) w) :
    wpList Try.prog ops Q (o :: rest) a w := by
  refine wpList_lookup_own_int w hg m x 47 hop 9 29 .u64 law9 Try.underlying47 Try.underlying29 (zero29 _) b n D hm hown _ _ hx (keyOf_string_mk Try.underlying9 hs) fun c hat _ => ?_
  have e : DataW.lit (H := Unit) (.int .u64 v) = .lit (.int .u64 c) := hv.symm.trans hat
  injection e with e
  injection e with _ e
  subst e
  exact hK
theorem wf_u64 {v : Int} (h0 : 0 ≤ v) (h1 : v ≤ 18446744073709551615) : (Lit.int .u64 v).wf = true := by
  simp [Lit.wf, IntKind.min, IntKind.max, IntKind.signed, IntKind.bits]; omega
/-- A store of a number, at the operation. -/
theorem wpList_num_put (w : World) {ops : Array Oper} {rest : List Oper} {o : Oper} {a : Act} {Q : Exit → Act → World → Prop} (hg : o.guard = none) (m x v : Operand) (hop : o.op = Op.mapUpdate 47 m x v)
    (b n : Nat) (D : DataW Unit) (hm : a.eval m = .map (some b)) (hown : NumMap w b n D) (hn : n < maxLen) (s : ByteArray) (hx : a.eval x = .string s) (hs : s.size ≤ maxLen) (u : Int) (hv : a.eval v = .int .u64 u) (h0 : 0 ≤ u) (h1 : u ≤ 18446744073709551615)
    (hK : ∀ w', NumMap w' b (n + 1) (D.put (key s) (.lit (.int .u64 u))) → w.grownBy w' (some b) → wpList Try.prog ops Q rest (a.put o.dst undef) w') :
    wpList Try.prog ops Q (o :: rest) a w :=
  wpList_mapUpdate_own w hg m x v 47 hop 9 29 law9 Try.underlying47 _ b n D hm hown hn _ _ _ hx hv (keyOf_string_mk Try.underlying9 hs) _ [] (plainElem_int Try.underlying29 (wf_u64 h0 h1)) hK

/-- Behind a step that writes one block alone an object that lies elsewhere is as it was. -/
theorem CountsAt.other {w w' : World} {b bn bm bv m : Nat} {ns : List ByteArray} {vs : List Int} (h : CountsAt w b bn bm bv ns vs) (hg : w.grownBy w' (some m)) (e0 : b ≠ m) (e1 : bn ≠ m) (e2 : bm ≠ m) (e3 : bv ≠ m) : CountsAt w' b bn bm bv ns vs :=
  h.keep (hg.block _ h.lb (fun e => e0 (by injection e))) (hg.block _ h.lbn (fun e => e1 (by injection e))) (hg.block _ h.lbm (fun e => e2 (by injection e))) (hg.block _ h.lbv (fun e => e3 (by injection e))) hg.size
/-- All and Reset, where there is a name: the answer's cells. -/
def RowPost (w : World) (cs : List Value) (n : Nat) (v : Value) (w' : World) : Prop := ∃ g cap, v = .slice (some ⟨g, 0, none⟩) n cap ∧ w.heap.size ≤ g ∧ g < w'.heap.size ∧ ∀ j, j < n * 2 → w'.cell? ⟨g, j, none⟩ = cs[j]?
theorem row_post {w w' : World} {cs : List Value} {n : Nat} {v : Value} (h : w'.ownsRow w.heap.size 39 2 v n cs) (hn : 0 < n) : RowPost w cs n v w' := by
  have h0 := h
  rcases h.2 with ⟨_, e⟩ | ⟨g, cap, cur, rfl, hg, hh, _⟩
  · omega
  · exact ⟨g, cap, rfl, hg, lt_of_block hh, fun j hj => h0.cellAt j hj⟩
theorem all_row {b bn bm bv : Nat} {ns : List ByteArray} {vs : List Int} {w : World} (h : CountsAt w b bn bm bv ns vs) (hn : 0 < ns.length) :
    Calls Try.prog 11 #[.pointer (some ⟨b, 0, none⟩)] w fun e w' => ∃ g cap, e = .returned (.slice (some ⟨g, 0, none⟩) ns.length cap) ∧ w.heap.size ≤ g ∧ g < w'.heap.size ∧ (∀ j, j < ns.length * 2 → w'.cell? ⟨g, j, none⟩ = (statCells ns vs)[j]?) ∧ Below w.heap.size w w' :=
  (all_any h).mono fun e w' ⟨v, he, ho, hb⟩ => by
    obtain ⟨g, cap, rfl, h1, h2, h3⟩ := row_post ho hn
    exact ⟨g, cap, he, h1, h2, h3, hb⟩
theorem reset_row {b bn bm bv : Nat} {ns : List ByteArray} {vs : List Int} {w : World} (h : CountsAt w b bn bm bv ns vs) (hn : 0 < ns.length) :
    Calls Try.prog 14 #[.pointer (some ⟨b, 0, none⟩)] w fun e w' => ∃ g cap, e = .returned (.slice (some ⟨g, 0, none⟩) ns.length cap) ∧ w.heap.size ≤ g ∧ g < w'.heap.size ∧ (∀ j, j < ns.length * 2 → w'.cell? ⟨g, j, none⟩ = (statCells ns vs)[j]?) ∧
      CountsAt w' b bn bm bv ns (List.replicate ns.length 0) ∧ w.grownBy w' (some bv) :=
  (reset_any h).mono fun e w' ⟨v, he, ho, hC, hg⟩ => by
    obtain ⟨g, cap, rfl, h1, h2, h3⟩ := row_post ho hn
    exact ⟨g, cap, he, h1, h2, h3, hC, hg⟩
theorem grown_below {B : Nat} {a w w' : World} {r : Nat} (h : Below B a w) (hg : w.grownBy w' (some r)) (hB : B ≤ w.heap.size) (hr : B ≤ r) : Below B a w' := h.grown hg hB (fun k hk => by injection hk with hk; omega)
theorem keepc {a z c : World} {m : Nat} (hz : Below a.heap.size a z) (hg : z.grownBy c (some m)) {p : Addr} (hne : p.block ≠ m) {v : Value} (e : a.cell? p = some v) : c.cell? p = some v :=
  hg.cell ((hz.cell (World.block_lt_of_cell? a _ e)).trans e) (fun h => hne (by injection h))
theorem num_other {w w' : World} {m n r : Nat} {D : DataW Unit} (h : NumMap w m n D) (hg : w.grownBy w' (some r)) (hne : m ≠ r) : NumMap w' m n D := h.kept hg (fun e => hne (by injection e))
theorem num_mono {w : World} {m n n' : Nat} {D : DataW Unit} (h : NumMap w m n D) (hn : n ≤ n') : NumMap w m n' D := h.mono hn
theorem num_below {w w' : World} {m n : Nat} {D : DataW Unit} (h : NumMap w m n D) (hb : Below w.heap.size w w') : NumMap w' m n D := h.kept (grown_of_below hb none) (by simp)
theorem num_run {w : World} {m n : Nat} {D : DataW Unit} {s : ByteArray} {v : Int} (h : NumMap w m n D) (hs : s.size ≤ maxLen) (hv : At D s v) (wx : World) (hx : wx.heap = w.heap) :
    (Instr.lookup 47 (.map (some m)) (.string s) false).run Try.prog wx = .ok (.int .u64 v) wx := by
  have h' : NumMap wx m n D := by
    obtain ⟨es, clock, hb, r⟩ := h
    exact ⟨es, clock, by rw [hx]; exact hb, r⟩
  obtain ⟨c, hrun, hat, _⟩ := h'.lookup_int law9 Try.underlying47 Try.underlying29 (zero29 _) (keyOf_string_mk Try.underlying9 hs)
  have e : DataW.lit (H := Unit) (.int .u64 v) = .lit (.int .u64 c) := hv.symm.trans hat
  injection e with e
  injection e with _ e
  rw [hrun, e]
theorem counts_heap {w w' : World} {b bn bm bv : Nat} {ns : List ByteArray} {vs : List Int} (h : CountsAt w b bn bm bv ns vs) (hx : w'.heap = w.heap) : CountsAt w' b bn bm bv ns vs :=
  h.keep (by rw [hx]) (by rw [hx]) (by rw [hx]) (by rw [hx]) (by rw [hx]; exact Nat.le_refl _)
theorem num_heap {w w' : World} {m n : Nat} {D : DataW Unit} (h : NumMap w m n D) (hx : w'.heap = w.heap) : NumMap w' m n D := by
  obtain ⟨es, clock, hb, r⟩ := h
  exact ⟨es, clock, by rw [hx]; exact hb, r⟩
theorem get_hit' {b bn bm bv : Nat} {ns : List ByteArray} {vs : List Int} {w : World} (h : CountsAt w b bn bm bv ns vs) (s : ByteArray) (i : Nat) (x : Int) (hi : ns[i]? = some s) (hx : vs[i]? = some x) :
    Calls Try.prog 10 #[.pointer (some ⟨b, 0, none⟩), .string s] w fun e w' => e = .returned (.int .u64 x) ∧ w' = w := (get_hit h s i x hi hx).mono fun _ _ h => ⟨h.1, h.2.symm⟩
theorem wrap_u64_in {v : Int} (h0 : 0 ≤ v) (h1 : v ≤ 18446744073709551615) : IntKind.u64.wrap v = v := by
  simp only [IntKind.wrap, IntKind.bits, IntKind.signed]; simp; omega
theorem below_drewN' {B : Nat} {a w : World} (h : Below B a w) (n : Nat) : Below B a (w.drewN n) := ⟨h.os, h.tape, h.output, h.size, h.block⟩
end Go.Proofs.Ytackgcbfpkndjaa
