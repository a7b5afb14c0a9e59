/- What a view behind news is, plainly: no walk and no program. -/
import Derived.Test.YthpfknigommheaaPViewTellsx3
import Derived.Test.YthpfknigommheaaPViewTellsx4
import Derived.Test.YthpfknigommheaaV
namespace Go.Proofs.Ythpfknigommheaa
open Go.RowKit PViewTells

theorem ext33 {a b : S33} (h0 : a.f0 = b.f0) (h1 : a.f1 = b.f1) : a = b := by cases a; cases b; simp_all
theorem ext36 {a b : S36} (h0 : a.f0 = b.f0) (h1 : a.f1 = b.f1) : a = b := by cases a; cases b; simp_all
def eq33 (a b : S33) : Bool := a.f0 == b.f0 && a.f1 == b.f1
theorem eq33_iff {a b : S33} : eq33 a b = true ↔ a = b := by
  unfold eq33
  rw [Bool.and_eq_true, beq_iff_eq, beq_iff_eq]
  exact ⟨fun h => ext33 h.1 h.2, fun h => by rw [h]; exact ⟨rfl, rfl⟩⟩
theorem eq33_not {a b : S33} : eq33 a b = false ↔ a ≠ b := by
  rw [← Bool.not_eq_true, eq33_iff]
def ok33 (x : S33) : Prop := (0 ≤ x.f0 ∧ x.f0 ≤ 255) ∧ 0 ≤ x.f1 ∧ x.f1 ≤ 4294967295
def ok36 (x : S36) : Prop := (0 ≤ x.f0 ∧ x.f0 ≤ 255) ∧ ok33 x.f1
def newer (a b : S33) : Bool := decide (b.f1 < a.f1) || (decide (a.f1 = b.f1) && decide (b.f0 < a.f0))
theorem newer_iff {a b : S33} : newer a b = true ↔ b.f1 < a.f1 ∨ (a.f1 = b.f1 ∧ b.f0 < a.f0) := by simp [newer]
def bump (i : Int) : Int := max i (min i 4294967294 + 1)
/-- A member behind one piece of news. -/
def hear1 (m : S33) (self : Bool) (x : S33) : S33 :=
  if x.f0 < 1 ∨ 4 < x.f0 then m
  else if self then (if m.f1 < x.f1 ∨ (x.f1 = m.f1 ∧ x.f0 ≠ 1) then ⟨1, bump x.f1⟩ else m)
  else if newer x m then x else m
def stepN (self : Int) (s : List S33 × List S36) (x : S36) : List S33 × List S36 :=
  match s.1[x.f0.toNat]? with
  | none => s
  | some m => if eq33 (hear1 m (x.f0 == self) x.f1) m then s else (s.1.set x.f0.toNat (hear1 m (x.f0 == self) x.f1), s.2 ++ [⟨x.f0, hear1 m (x.f0 == self) x.f1⟩])
def heardFrom (self : Int) (s : List S33 × List S36) (l : List S36) : List S33 × List S36 := l.foldl (stepN self) s
def heard (self : Int) (v : List S33) (l : List S36) : List S33 × List S36 := heardFrom self (v, []) l

theorem bump_ok {i : Int} (h0 : 0 ≤ i) (h1 : i ≤ 4294967295) : 0 ≤ bump i ∧ bump i ≤ 4294967295 ∧ i ≤ bump i := by unfold bump; omega
theorem hear1_ok {m x : S33} (hm : ok33 m) (hx : ok33 x) (self : Bool) : ok33 (hear1 m self x) := by
  unfold hear1
  split
  · exact hm
  · split
    · split
      · have := bump_ok hx.2.1 hx.2.2
        exact ⟨⟨by show (0 : Int) ≤ 1; decide, by show (1 : Int) ≤ 255; decide⟩, this.1, this.2.1⟩
      · exact hm
    · split
      · exact hx
      · exact hm
theorem stepN_len (self : Int) (s : List S33 × List S36) (x : S36) : (stepN self s x).1.length = s.1.length ∧ (stepN self s x).2.length ≤ s.2.length + 1 := by
  unfold stepN
  split
  · exact ⟨rfl, Nat.le_succ _⟩
  · split
    · exact ⟨rfl, Nat.le_succ _⟩
    · simp
theorem stepN_ok {self : Int} {s : List S33 × List S36} {x : S36} (h1 : ∀ y ∈ s.1, ok33 y) (h2 : ∀ y ∈ s.2, ok36 y) (hx : ok36 x) : (∀ y ∈ (stepN self s x).1, ok33 y) ∧ (∀ y ∈ (stepN self s x).2, ok36 y) := by
  unfold stepN
  split
  · exact ⟨h1, h2⟩
  · rename_i m hm
    have hok := hear1_ok (h1 m (List.mem_of_getElem? hm)) hx.2 (x.f0 == self)
    split
    · exact ⟨h1, h2⟩
    · refine ⟨fun y hy => ?_, fun y hy => ?_⟩
      · rcases List.mem_or_eq_of_mem_set hy with h | rfl
        · exact h1 y h
        · exact hok
      · rcases List.mem_append.1 hy with h | h
        · exact h2 y h
        · rw [List.mem_singleton] at h
          subst h
          exact ⟨hx.1, hok⟩
theorem heardFrom_more (self : Int) (s : List S33 × List S36) (l : List S36) (k : Nat) (x : S36) (h : l[k]? = some x) : heardFrom self s (l.take (k + 1)) = stepN self (heardFrom self s (l.take k)) x := by
  unfold heardFrom
  rw [List.take_add_one, h]
  simp
theorem heardFrom_inv (self : Int) (l : List S36) (hl : ∀ x ∈ l, ok36 x) : ∀ s : List S33 × List S36, (∀ y ∈ s.1, ok33 y) → (∀ y ∈ s.2, ok36 y) →
    (heardFrom self s l).1.length = s.1.length ∧ (heardFrom self s l).2.length ≤ s.2.length + l.length ∧ (∀ y ∈ (heardFrom self s l).1, ok33 y) ∧ (∀ y ∈ (heardFrom self s l).2, ok36 y) := by
  induction l with
  | nil => intro s h1 h2; exact ⟨rfl, Nat.le_refl _, h1, h2⟩
  | cons x l ih =>
    intro s h1 h2
    obtain ⟨a, b⟩ := stepN_ok (self := self) h1 h2 (hl x List.mem_cons_self)
    obtain ⟨c, d⟩ := stepN_len self s x
    obtain ⟨e1, e2, e3, e4⟩ := ih (fun y hy => hl y (List.mem_cons_of_mem _ hy)) (stepN self s x) a b
    exact ⟨e1.trans c, by simp only [List.length_cons]; exact Nat.le_trans e2 (by omega), e3, e4⟩
/-- The cells of members, and of news. -/
def cells33 (x : S33) : List Value := [.int .u8 x.f0, .int .u32 x.f1]
def cells36 (x : S36) : List Value := [.int .u8 x.f0, .int .u8 x.f1.f0, .int .u32 x.f1.f1]
def memC (l : List S33) : List Value := l.flatMap cells33
def newsC (l : List S36) : List Value := l.flatMap cells36
theorem flat_len {α : Type} {f : α → List Value} {C : Nat} (hf : ∀ x, (f x).length = C) (l : List α) : (l.flatMap f).length = l.length * C := by
  induction l with
  | nil => simp
  | cons x l ih => rw [List.flatMap_cons, List.length_append, hf, ih, List.length_cons, Nat.add_mul, Nat.one_mul, Nat.add_comm]
theorem flat_get {α : Type} {f : α → List Value} {C : Nat} (hf : ∀ x, (f x).length = C) : ∀ (l : List α) (i j : Nat) (x : α), l[i]? = some x → j < C → (l.flatMap f)[i * C + j]? = (f x)[j]?
  | [], i, j, x, h, _ => by simp at h
  | y :: l, 0, j, x, h, hj => by
    simp at h; subst h
    rw [List.flatMap_cons, List.getElem?_append_left (by rw [hf]; omega)]
    simp
  | y :: l, i + 1, j, x, h, hj => by
    have h' : l[i]? = some x := by simpa using h
    rw [List.flatMap_cons, List.getElem?_append_right (by rw [hf, Nat.add_mul]; omega), hf, Nat.add_mul, show i * C + 1 * C + j - C = i * C + j by omega]
    exact flat_get hf l i j x h' hj
theorem memC_cons (y : S33) (l : List S33) : memC (y :: l) = .int .u8 y.f0 :: .int .u32 y.f1 :: memC l := rfl
theorem memC_set : ∀ (l : List S33) (i : Nat) (x : S33), i < l.length → memC (l.set i x) = ((memC l).set (i * 2) (.int .u8 x.f0)).set (i * 2 + 1) (.int .u32 x.f1)
  | [], i, x, h => by simp at h
  | y :: l, 0, x, h => by simp [memC_cons]
  | y :: l, i + 1, x, h => by
    rw [List.set_cons_succ, memC_cons, memC_set l i x (by simpa using h), memC_cons, show (i + 1) * 2 = i * 2 + 1 + 1 by omega, List.set_cons_succ, List.set_cons_succ, show i * 2 + 2 = i * 2 + 1 + 1 from rfl, List.set_cons_succ, List.set_cons_succ]
theorem len33 (x : S33) : (cells33 x).length = 2 := rfl
theorem len36 (x : S36) : (cells36 x).length = 3 := rfl
end Go.Proofs.Ythpfknigommheaa
