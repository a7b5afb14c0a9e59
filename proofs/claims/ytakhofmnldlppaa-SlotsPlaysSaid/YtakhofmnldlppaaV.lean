/- How an argument that is a slice reads, as a list of plain values: plain facts with no walk and no program. -/
import Derived.Below
import Derived.SizedLaws
import Derived.Deep.Slices
import Derived.Deep.Fields
import Derived.ChangeSame
import Derived.ProofKit
namespace Go.Proofs.Ytakhofmnldlppaa
open Go.ChangeShapes Go.WideShapes Go.RowKit Go.Deep

/-- The slice value (a, len, cap) reads as L: f x are the C cells of x. -/
structure RowOf {α : Type} (f : α → List Value) (C : Nat) (ok : α → Prop) (w : World) (a : Option Addr) (len cap : Nat) (L : List α) : Prop where
  size : L.length = len
  le : len ≤ cap
  nil : a = none → len = 0 ∧ cap = 0
  good : ∀ x ∈ L, ok x
  cell : ∀ (i : Nat) (x : α), L[i]? = some x → ∃ b o, a = some ⟨b, o, none⟩ ∧ ∀ (j : Nat) (v : Value), (f x)[j]? = some v → w.cell? ⟨b, o + (i * C + j), none⟩ = some v

theorem RowOf.below {α : Type} {f : α → List Value} {C : Nat} {ok : α → Prop} {w w' : World} {a : Option Addr} {len cap : Nat} {L : List α} (h : RowOf f C ok w a len cap L) (hb : Below w.heap.size w w') : RowOf f C ok w' a len cap L :=
  ⟨h.size, h.le, h.nil, h.good, fun i x hx => by
      obtain ⟨b, o, e, hc⟩ := h.cell i x hx
      exact ⟨b, o, e, fun j v hv => (hb.cell (World.block_lt_of_cell? w _ (hc j v hv))).trans (hc j v hv)⟩⟩

theorem choose_list {β α : Type} {f : α → β} {ok : α → Prop} : ∀ (L : List β), (∀ c ∈ L, ∃ x, c = f x ∧ ok x) → ∃ xs : List α, L = xs.map f ∧ ∀ x ∈ xs, ok x
  | [], _ => ⟨[], rfl, by simp⟩
  | c :: r, h => by
    obtain ⟨x, hx, ho⟩ := h c List.mem_cons_self
    obtain ⟨xs, hxs, hok⟩ := choose_list r (fun c hc => h c (List.mem_cons_of_mem _ hc))
    refine ⟨x :: xs, by rw [hx, hxs]; rfl, ?_⟩
    intro y hy
    rcases List.mem_cons.1 hy with rfl | hy
    · exact ho
    · exact hok y hy

theorem chosen_range {β : Type} (n : Nat) (p : Nat → β → Prop) (h : ∀ i, i < n → ∃ c, p i c) : ∃ L : List β, L.length = n ∧ ∀ i c, L[i]? = some c → p i c := by
  induction n with
  | zero => exact ⟨[], rfl, by simp⟩
  | succ n ih =>
    obtain ⟨L, hl, hp⟩ := ih (fun i hi => h i (by omega))
    obtain ⟨c, hc⟩ := h n (by omega)
    refine ⟨L ++ [c], by simp [hl], fun i x hx => ?_⟩
    by_cases hi : i < n
    · exact hp i x (by rwa [List.getElem?_append_left (by omega)] at hx)
    · rw [List.getElem?_append_right (by omega)] at hx
      obtain rfl : i = n := by
        have := (List.getElem?_eq_some_iff.1 hx).1
        simp at this
        omega
      rw [hl, Nat.sub_self] at hx
      simp at hx
      subst hx
      exact hc

section
variable {H : Type} {enc : TypeId × Value → H} {P : Program} {w : World} {base : Nat} {spare : Nat → Bool} {held : Bool}

theorem sized_row {t e : TypeId} {a : Option Addr} {len cap : Nat} {d : DataW H} {ps : List MemPlace} {ts : List TypeId} {ds : List (DataW H)} {j : Nat}
    (hsz : (DataW.weightsEach P ts ds).all (· ≤ reachBytes) = true) (ht : ts[j]? = some t) (hd : ds[j]? = some d) (hu : P.underlying t = some (.slice e)) {B : Nat} (hB : P.bytesOf e = B)
    (h : DataW.Trod enc P w base spare held t (.slice a len cap) d ps) : len * B ≤ 140737488351232 := by
  obtain ⟨fuel, hf⟩ := h
  rcases open_slice hu hf with ⟨hcs, _⟩ | ⟨x, l, c, m, n, D, Pl, hcs, _, _, _, _, hx, _⟩
  · simp [Value.cells] at hcs
    obtain ⟨rfl, rfl, rfl⟩ := hcs
    simp
  · simp [Value.cells] at hcs
    obtain ⟨rfl, rfl, rfl⟩ := hcs
    obtain ⟨hx, _⟩ := Prod.mk.inj hx
    subst hx
    have z := sized_slice hsz ht hd hu
    rw [hB, List.length_map, List.length_range] at z
    have z2 : reachBytes = 140737488351232 := rfl
    rw [z2] at z
    exact Nat.le_trans (Nat.mul_le_mul_right B (Nat.le_add_right _ _)) z

theorem add_off {b o n : Nat} : (⟨b, o, none⟩ : Addr).add n = ⟨b, o + n, none⟩ := by
  simp only [Addr.add]
  split
  · rename_i h; rw [h]; rfl
  · rfl

theorem row_of {α : Type} {f : α → List Value} {C : Nat} {ok : α → Prop} {t e : TypeId} {a : Option Addr} {len cap : Nat} {d : DataW H} {ps : List MemPlace} (hu : P.underlying t = some (.slice e)) (hC : P.cellsOf e = C) (hpos : 0 < C)
    (shape : ∀ n cs x, DataW.trod enc P w base spare held n e cs = some x → ∃ y, cs = f y ∧ ok y) (hlen : ∀ y, (f y).length = C)
    (h : DataW.Trod enc P w base spare held t (.slice a len cap) d ps) : ∃ L : List α, RowOf f C ok w a len cap L := by
  obtain ⟨fuel, hf⟩ := h
  rcases open_slice hu hf with ⟨hcs, _⟩ | ⟨x, l, c, m, n, D, Pl, hcs, _, hl, _, hm, hx, hi⟩
  · simp [Value.cells] at hcs
    obtain ⟨rfl, rfl, rfl⟩ := hcs
    exact ⟨[], rfl, Nat.le_refl _, fun _ => ⟨rfl, rfl⟩, by simp, by simp⟩
  · simp [Value.cells] at hcs
    obtain ⟨rfl, rfl, rfl⟩ := hcs
    have hlm : len ≤ m := by rw [hm]; split <;> omega
    obtain ⟨L, hL, hp⟩ := chosen_range len (fun i (cs : List Value) => w.cells? base (x.add (i * C)) C = some cs ∧ ∃ q, DataW.trod enc P w base spare held n e cs = some q) (fun i hlt => by
      obtain ⟨cs, h1, h2⟩ := hi i (by omega)
      rw [hC] at h1
      exact ⟨cs, h1, _, h2⟩)
    obtain ⟨xs, hxs, hok⟩ := choose_list (f := f) (ok := ok) L (fun cs hcs => by
      obtain ⟨i, hi'⟩ := List.mem_iff_getElem?.1 hcs
      obtain ⟨_, q, hq⟩ := hp i cs hi'
      exact shape n cs q hq)
    subst hxs
    refine ⟨xs, by simpa using hL, hl, by simp, hok, fun i y hy => ?_⟩
    obtain ⟨h1, _⟩ := hp i (f y) (by rw [List.getElem?_map, hy]; rfl)
    obtain ⟨_, hcl, hat⟩ := World.cells?_some h1
    obtain ⟨y0, hy0⟩ : ∃ y0, xs[0]? = some y0 := ⟨_, List.getElem?_eq_getElem (by have := (List.getElem?_eq_some_iff.1 hy).1; omega)⟩
    obtain ⟨g1, _⟩ := hp 0 (f y0) (by rw [List.getElem?_map, hy0]; rfl)
    obtain ⟨_, _, gat⟩ := World.cells?_some g1
    have g0 := gat (i := 0) hpos
    obtain ⟨b, o, sp⟩ := x
    have hsp : sp = none := by
      cases sp with
      | none => rfl
      | some z =>
        rw [List.getElem?_eq_getElem (by rw [hlen]; exact hpos)] at g0
        have e1 : ((⟨b, o, some z⟩ : Addr).add (0 * C)).add 0 = ⟨b, o, some z⟩ := by simp [Addr.add]
        rw [e1] at g0
        unfold World.cell? at g0
        split at g0 <;> simp at g0
    subst hsp
    refine ⟨b, o, rfl, fun j v hj => ?_⟩
    have hjl : j < C := by
      have := (List.getElem?_eq_some_iff.1 hj).1
      rw [hlen] at this
      exact this
    have h2 := hat j hjl
    rw [add_off, add_off] at h2
    rw [show o + (i * C + j) = o + i * C + j by omega, h2, hj]

theorem int_shape {e : TypeId} {k : IntKind} (he : P.underlying e = some (.int k)) : ∀ n cs x, DataW.trod enc P w base spare held n e cs = some x → ∃ y : Int, cs = [.int k y] ∧ (Lit.int k y).wf = true := by
  intro n cs x h
  obtain ⟨y, h1, _, h2⟩ := DataW.trod_int he h
  exact ⟨y, h1, h2⟩
theorem str_shape {e : TypeId} (he : P.underlying e = some .string) : ∀ n cs x, DataW.trod enc P w base spare held n e cs = some x → ∃ y : ByteArray, cs = [.string y] ∧ y.size ≤ maxLen := by
  intro n cs x h
  obtain ⟨y, h1, _, h2⟩ := DataW.trod_string he h
  exact ⟨y, h1, h2⟩
end
end Go.Proofs.Ytakhofmnldlppaa
