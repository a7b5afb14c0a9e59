/- What hearing news does to members, plainly: nobody is replaced by one that isn't newer. No walk. -/
import Derived.Test.YthpfknigommheaaVh
namespace Go.Proofs.Ythpfknigommheaa
open Go.RowKit PViewTells

theorem newer_trans {a b c : S33} (h : newer a b = true) (k : newer b c = true) : newer a c = true := by
  rw [newer_iff] at *
  omega
theorem newer_irrefl (a : S33) : newer a a = false := by
  rw [← Bool.not_eq_true, newer_iff]
  omega
/-- How a member stands to the one that it replaced. -/
def Follows (self : Int) (i : Nat) (m m' : S33) : Prop :=
  ((i : Int) = self → m.f1 ≤ m'.f1 ∧ (m.f0 = 1 → m'.f0 = 1)) ∧ ((i : Int) ≠ self → m' = m ∨ newer m' m = true)
theorem follows_refl (self : Int) (i : Nat) (m : S33) : Follows self i m m := ⟨fun _ => ⟨Int.le_refl _, id⟩, fun _ => Or.inl rfl⟩
theorem follows_trans {self : Int} {i : Nat} {a b c : S33} (h : Follows self i a b) (k : Follows self i b c) : Follows self i a c := by
  refine ⟨fun e => ⟨Int.le_trans (h.1 e).1 (k.1 e).1, fun e1 => (k.1 e).2 ((h.1 e).2 e1)⟩, fun e => ?_⟩
  rcases h.2 e with rfl | h1
  · exact k.2 e
  · rcases k.2 e with rfl | k1
    · exact Or.inr h1
    · exact Or.inr (newer_trans k1 h1)
theorem bump_ge (i : Int) : i ≤ bump i := by unfold bump; omega
theorem hear1_follows (self : Int) (n : Nat) (m x : S33) : Follows self n m (hear1 m ((n : Int) == self) x) := by
  unfold hear1
  split
  · exact follows_refl _ _ _
  · by_cases h : (n : Int) = self
    · rw [if_pos (by rw [beq_iff_eq]; exact h)]
      split
      · rename_i h2
        have := bump_ge x.f1
        exact ⟨fun _ => ⟨by show m.f1 ≤ bump x.f1; omega, fun _ => rfl⟩, fun e => absurd h e⟩
      · exact follows_refl _ _ _
    · rw [if_neg (by rw [beq_iff_eq]; exact h)]
      split
      · rename_i h2
        exact ⟨fun e => absurd e h, fun _ => Or.inr h2⟩
      · exact follows_refl _ _ _
structure Tame (me : Int) (v : List S33) (s : List S33 × List S36) : Prop where
  len : s.1.length = v.length
  mem : ∀ (i : Nat) (m m' : S33), v[i]? = some m → s.1[i]? = some m' → Follows me i m m'
  news : ∀ x ∈ s.2, ∃ (n : Nat) (m : S33), x.f0 = (n : Int) ∧ v[n]? = some m ∧ (x.f0 = me ∨ newer x.f1 m = true)
theorem tame_step {self : Int} {v : List S33} {s : List S33 × List S36} (h : Tame self v s) (x : S36) (hx : 0 ≤ x.f0) : Tame self v (stepN self s x) := by
  obtain ⟨x0, xm⟩ := x
  obtain ⟨n, rfl⟩ := Int.eq_ofNat_of_zero_le hx
  unfold stepN
  simp only [Int.toNat_natCast]
  split
  · exact h
  · rename_i m0 hm0
    split
    · exact h
    · rename_i hne
      have hlt : n < s.1.length := (List.getElem?_eq_some_iff.1 hm0).1
      have hf := hear1_follows self n m0 xm
      refine ⟨by rw [List.length_set]; exact h.len, fun i m m' hi hi' => ?_, fun y hy => ?_⟩
      · by_cases e : n = i
        · subst e
          rw [List.getElem?_set_self hlt] at hi'
          cases hi'
          exact follows_trans (h.mem n m m0 hi hm0) hf
        · rw [List.getElem?_set_ne e] at hi'
          exact h.mem i m m' hi hi'
      · rcases List.mem_append.1 hy with hy | hy
        · exact h.news y hy
        · rw [List.mem_singleton] at hy
          subst hy
          obtain ⟨m, hm⟩ : ∃ m, v[n]? = some m := ⟨_, List.getElem?_eq_getElem (by rw [← h.len]; exact hlt)⟩
          refine ⟨n, m, rfl, hm, ?_⟩
          by_cases e : (n : Int) = self
          · exact Or.inl e
          · right
            have h1 := h.mem n m m0 hm hm0
            have hne' : hear1 m0 ((n : Int) == self) xm ≠ m0 := by
              intro e2
              exact hne (eq33_iff.2 e2)
            rcases hf.2 e with h2 | h2
            · exact absurd h2 hne'
            · rcases h1.2 e with h3 | h3
              · rw [← h3]; exact h2
              · exact newer_trans h2 h3
theorem tame_all (self : Int) (v : List S33) : ∀ (l : List S36) (s : List S33 × List S36), (∀ x ∈ l, 0 ≤ x.f0) → Tame self v s → Tame self v (heardFrom self s l)
  | [], _, _, h => h
  | x :: l, s, hl, h => tame_all self v l (stepN self s x) (fun y hy => hl y (List.mem_cons_of_mem _ hy)) (tame_step h x (hl x List.mem_cons_self))
theorem tame_heard (self : Int) (v : List S33) (l : List S36) (hl : ∀ x ∈ l, ok36 x) : Tame self v (heard self v l) :=
  tame_all self v l (v, []) (fun x hx => (hl x hx).1.1) ⟨rfl, fun i m m' h h' => by rw [h] at h'; cases h'; exact follows_refl _ _ _, fun x hx => by simp at hx⟩
end Go.Proofs.Ythpfknigommheaa
