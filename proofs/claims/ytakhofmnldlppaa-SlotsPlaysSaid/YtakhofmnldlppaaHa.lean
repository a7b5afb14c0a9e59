/- A map of slots that were met, and what SlotsHome looks at. No walk. -/
import Derived.Test.YtakhofmnldlppaaRa
import Derived.Test.YtakhofmnldlppaaMa
namespace Go.Proofs.Ytakhofmnldlppaa
open Go.RowKit Go.Maps

theorem law3 : Keyed Try.prog 3 := int_keyed Try.underlying3
theorem zero4 (w : World) : (zeroValue 4).run Try.prog w = .ok (.bool false) w := by kernel_rfl
abbrev MapB (w : World) (m c : Nat) (D : DataW Unit) : Prop := w.ownsMap (H := Unit) Try.prog 3 (plainElem Try.prog 4) m c D
theorem mapB_block {w w' : World} {m c : Nat} {D : DataW Unit} (h : MapB w m c D) (hx : w'.heap[m]? = w.heap[m]?) : MapB w' m c D := by
  obtain ⟨es, clock, hb, r⟩ := h
  exact ⟨es, clock, by rw [hx]; exact hb, r⟩
def ikey (i : Nat) : Lit := .int .i64 i
theorem ikey_inj {i j : Nat} (h : ikey i = ikey j) : i = j := by
  unfold ikey at h
  injection h with _ h
  omega
theorem ikey_lit (i : Nat) : WideAt.IsKeyLit (ikey i) := by simp [ikey, WideAt.IsKeyLit]
theorem ikey_of (i : Nat) (hi : i ≤ 2048) : keyOf Try.prog 3 (.int .i64 (i : Int)) = some (ikey i) := by
  refine keyOf_int_mk Try.underlying3 ?_
  simp [Lit.wf, IntKind.min, IntKind.max, IntKind.signed, IntKind.bits]
  omega
theorem plainElem_bool_inv {e : TypeId} (he : Try.prog.underlying e = some .bool) {v : Value} {x : Bool} {ps : List MemPlace} (h : plainElem (H := Unit) Try.prog e v = some (.lit (.bool x), ps)) : v = .bool x := by
  unfold plainElem at h
  rw [he] at h
  cases v <;> simp at h
  rw [h.1]
theorem mapB_look {w : World} {m c : Nat} {D : DataW Unit} (h : MapB w m c D) (i : Nat) (hi : i ≤ 2048) (y : Bool) (hat : D.atKey (ikey i) (.lit (.bool false)) = .lit (.bool y)) :
    (Instr.lookup 55 (.map (some m)) (.int .i64 (i : Int)) false).run Try.prog w = .ok (.bool y) w := by
  obtain ⟨v, ps, hrun, hv⟩ := h.lookup law3 Try.underlying55 (zero4 w) (plainElem_bool Try.underlying4 false) (ikey_of i hi)
  rw [hat] at hv
  rw [hrun, plainElem_bool_inv Try.underlying4 hv]
/-- Was slot i met? -/
def met (L : List S) (l : List ByteArray) (i : Nat) : Bool := l.any (fun s => (findP L s).1 == i)
def Met (D : DataW Unit) (L : List S) (l : List ByteArray) : Prop := IsMap D ∧ ∀ i, D.atKey (ikey i) (.lit (.bool false)) = .lit (.bool (met L l i))
theorem met_none (L : List S) : Met (.map []) L [] := ⟨⟨[], rfl⟩, fun _ => rfl⟩
theorem met_put {D : DataW Unit} {L : List S} {l : List ByteArray} (h : Met D L l) (s : ByteArray) : Met (D.put (ikey (findP L s).1) (.lit (.bool true))) L (l ++ [s]) := by
  refine ⟨h.1.put _ _, fun i => ?_⟩
  unfold met
  rw [List.any_append]
  by_cases e : (findP L s).1 = i
  · rw [← e, atKey_put_same h.1 (ikey_lit _)]
    simp
  · rw [atKey_put_other (fun k => e (ikey_inj k).symm), h.2 i]
    have e2 : ((findP L s).1 == i) = false := beq_eq_false_iff_ne.2 e
    unfold met
    simp [e2]
/-- Each key has another slot. -/
theorem met_not {L : List S} {most n : Nat} (G : Good L most n) {j : Nat} {s : ByteArray} (hs : (keysP L)[j]? = some s) : met L ((keysP L).take j) (findP L s).1 = false := by
  unfold met
  rw [List.any_eq_false]
  intro t ht he
  have he2 : (findP L t).1 = (findP L s).1 := by simpa using he
  have hj := (List.getElem?_eq_some_iff.1 hs).1
  obtain ⟨p, hp, hpu, rfl⟩ := mem_keysP.1 (List.mem_of_getElem? hs)
  obtain ⟨q, hq, hqu, rfl⟩ := mem_keysP.1 (List.mem_of_mem_take ht)
  rw [G.hit hp hpu, G.hit hq hqu] at he2
  simp only at he2
  subst he2
  obtain ⟨i, hi⟩ := List.mem_iff_getElem?.1 ht
  rw [List.getElem?_take] at hi
  split at hi
  · rename_i hij
    have := (List.getElem?_inj (by omega) G.nodup).1 (hi.trans hs.symm)
    omega
  · cases hi
theorem met_used {L : List S} {most n : Nat} (G : Good L most n) {q : Nat} (hq : q < L.length) (hu : (ix L q).used = true) : met L (keysP L) q = true := by
  unfold met
  rw [List.any_eq_true]
  exact ⟨_, mem_keysP.2 ⟨q, hq, hu, rfl⟩, by rw [G.hit hq hu]; simp⟩
theorem take_next {l : List ByteArray} {j : Nat} {s : ByteArray} (hs : l[j]? = some s) : l.take (j + 1) = l.take j ++ [s] := by
  have hj := (List.getElem?_eq_some_iff.1 hs).1
  rw [List.take_succ_eq_append_getElem hj]
  rw [List.getElem?_eq_getElem hj] at hs
  injection hs with hs
  rw [hs]
theorem slot_here {L : List S} {most n : Nat} (G : Good L most n) {s : ByteArray} (hs : s ∈ keysP L) : slotP L s = ((findP L s).1 : Int) ∧ (findP L s).1 < L.length := by
  obtain ⟨p, hp, hpu, rfl⟩ := mem_keysP.1 hs
  unfold slotP
  rw [G.hit hp hpu, if_pos rfl]
  exact ⟨rfl, hp⟩
theorem path_to {L : List S} {most n : Nat} (G : Good L most n) {s : ByteArray} (hs : s ∈ keysP L) {d : Nat} (hd : d < dst L.length (hm L s) (findP L s).1) : met L (keysP L) ((hm L s + d) % L.length) = true := by
  obtain ⟨p, hp, hpu, rfl⟩ := mem_keysP.1 hs
  rw [G.hit hp hpu] at hd
  simp only at hd
  have h0 : 1 ≤ L.length := by omega
  have hh := hm_lt h0 (ix L p).key
  have hl := dst_lt (m := L.length) (h := hm L (ix L p).key) (i := p) h0
  have hown : (ix L p).home = hm L (ix L p).key := G.own _ (ix_mem hp) hpu
  refine met_used G (Nat.mod_lt _ (by omega)) (G.paths p hp hpu _ (Nat.mod_lt _ (by omega)) ?_)
  rw [hown, dst_of hh (by omega)]
  exact hd
end Go.Proofs.Ytakhofmnldlppaa
