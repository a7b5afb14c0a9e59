/- Of all but self the newest of all is believed: order and repetition play no part. No walk. -/
import Derived.Test.YthpfknigommheaaVl
namespace Go.Proofs.Ythpfknigommheaa
open Go.RowKit PViewTells

/-- b is the newest of m and of what l says of node i. -/
structure Newest (i : Nat) (m : S33) (l : List S36) (b : S33) : Prop where
  one : b = m ∨ ∃ x ∈ l, x.f0 = (i : Int) ∧ fine x.f1 ∧ b = x.f1
  old : newer m b = false
  all : ∀ x ∈ l, x.f0 = (i : Int) → fine x.f1 → newer x.f1 b = false
theorem not_newer_of {a b c : S33} (h : newer b c = false) (hab : a = b ∨ newer b a = true) : newer a c = false := by
  rcases hab with rfl | hab
  · exact h
  · rw [← Bool.not_eq_true] at *
    exact fun k => h (newer_trans hab k)
theorem newest_from (self : Int) (i : Nat) (hi : (i : Int) ≠ self) : ∀ (l : List S36) (s : List S33 × List S36) (m : S33), (∀ x ∈ l, 0 ≤ x.f0) → s.1[i]? = some m → ∃ b, (heardFrom self s l).1[i]? = some b ∧ Newest i m l b
  | [], s, m, _, h => ⟨m, h, Or.inl rfl, newer_irrefl m, fun x hx => by simp at hx⟩
  | x :: l, s, m, hl, h => by
    obtain ⟨x0, xm⟩ := x
    have hx0 : 0 ≤ x0 := hl _ List.mem_cons_self
    obtain ⟨n, rfl⟩ := Int.eq_ofNat_of_zero_le hx0
    -- what lies at i behind the first
    obtain ⟨m1, h1, h2, h3⟩ : ∃ m1, (stepN self s ⟨(n : Int), xm⟩).1[i]? = some m1 ∧ (m1 = m ∨ (n = i ∧ fine xm ∧ m1 = xm ∧ newer m1 m = true)) ∧ (n = i → fine xm → xm = m1 ∨ newer m1 xm = true ∨ newer xm m1 = false) := by
      by_cases e : n = i
      · subst e
        have he : ((n : Int) == self) = false := beq_eq_false_iff_ne.2 hi
        have hs : (stepN self s ⟨(n : Int), xm⟩).1[n]? = some (hear1 m false xm) := by
          unfold stepN
          simp only [Int.toNat_natCast, h, he]
          split
          · rename_i hq
            rw [eq33_iff.1 hq]; exact h
          · exact List.getElem?_set_self (List.getElem?_eq_some_iff.1 h).1
        refine ⟨_, hs, ?_, fun _ hf => Or.inr (Or.inr (hear1_notnewer hf))⟩
        by_cases hf : fine xm
        · rw [hear1_other hf]
          by_cases hnw : newer xm m = true
          · rw [if_pos hnw]; exact Or.inr ⟨rfl, hf, rfl, hnw⟩
          · rw [if_neg hnw]; exact Or.inl rfl
        · left
          unfold hear1
          rw [if_pos (by unfold fine at hf; omega)]
      · refine ⟨m, ?_, Or.inl rfl, fun h => absurd h e⟩
        unfold stepN
        simp only [Int.toNat_natCast]
        split
        · exact h
        · split
          · exact h
          · rw [List.getElem?_set_ne e]; exact h
    obtain ⟨b, hb, hN⟩ := newest_from self i hi l (stepN self s ⟨(n : Int), xm⟩) m1 (fun y hy => hl y (List.mem_cons_of_mem _ hy)) h1
    refine ⟨b, hb, ?_, ?_, fun y hy hyi hyf => ?_⟩
    · rcases hN.one with hb1 | ⟨y, hy, hyi, hyf, rfl⟩
      · rcases h2 with h2 | ⟨hn, hf, h2, _⟩
        · exact Or.inl (hb1.trans h2)
        · exact Or.inr ⟨⟨(n : Int), xm⟩, List.mem_cons_self, by rw [hn], hf, hb1.trans h2⟩
      · exact Or.inr ⟨y, List.mem_cons_of_mem _ hy, hyi, hyf, rfl⟩
    · rcases h2 with h2 | ⟨_, _, _, h2⟩
      · rw [← h2]; exact hN.old
      · exact not_newer_of hN.old (Or.inr h2)
    · rcases List.mem_cons.1 hy with rfl | hy
      · have hn : n = i := by have : (n : Int) = (i : Int) := hyi; omega
        rcases h3 hn hyf with h3 | h3 | h3
        · exact not_newer_of hN.old (Or.inl h3)
        · exact not_newer_of hN.old (Or.inr h3)
        · rw [← Bool.not_eq_true]
          intro k
          by_cases hq : newer m1 xm = true
          · have := newer_trans hq k
            rw [hN.old] at this
            cases this
          · have e := newer_total h3 (by simpa using hq)
            rw [e, hN.old] at k
            cases k
      · exact hN.all y hy hyi hyf
theorem newest_same {i : Nat} {m : S33} {l l' : List S36} {b b' : S33} (h : Newest i m l b) (h' : Newest i m l' b') (hs : ∀ x, x ∈ l ↔ x ∈ l') : b = b' := by
  refine newer_total ?_ ?_
  · rcases h.one with rfl | ⟨x, hx, hi, hf, rfl⟩
    · exact h'.old
    · exact h'.all x ((hs x).1 hx) hi hf
  · rcases h'.one with rfl | ⟨x, hx, hi, hf, rfl⟩
    · exact h.old
    · exact h.all x ((hs x).2 hx) hi hf
/-- The order, and how often each is heard, play no part. -/
theorem any_order (self : Int) (v : List S33) (l l' : List S36) (hl : ∀ x ∈ l, 0 ≤ x.f0) (hs : ∀ x, x ∈ l ↔ x ∈ l') (i : Nat) (hi : (i : Int) ≠ self) (m : S33) (hm : v[i]? = some m) :
    ∃ b, (heard self v l).1[i]? = some b ∧ (heard self v l').1[i]? = some b := by
  obtain ⟨b, h1, h2⟩ := newest_from self i hi l (v, []) m hl hm
  obtain ⟨b', k1, k2⟩ := newest_from self i hi l' (v, []) m (fun x hx => hl x ((hs x).2 hx)) hm
  have e := newest_same h2 k2 hs
  subst e
  exact ⟨b, h1, k1⟩
theorem turned_mem (l : List S36) (n k : Nat) (x : S36) : x ∈ l ↔ x ∈ l.drop n ++ l ++ l.take k := by
  rw [List.mem_append, List.mem_append]
  exact ⟨fun h => Or.inl (Or.inr h), fun h => h.elim (fun h => h.elim List.mem_of_mem_drop id) List.mem_of_mem_take⟩
/-- The cells of a row of news, from an address on. -/
theorem NewsR.cells {w : World} {g o : Nat} {xs : List S36} (h : NewsR w (some ⟨g, o, none⟩) xs) : ∀ (j : Nat) (u : Value), (newsC xs)[j]? = some u → w.cell? ⟨g, o + j, none⟩ = some u := by
  intro j u hu
  have hlt : j < xs.length * 3 := by rw [← flat_len len36 xs]; exact (List.getElem?_eq_some_iff.1 hu).1
  obtain ⟨x, hx⟩ : ∃ x, xs[j / 3]? = some x := ⟨_, List.getElem?_eq_getElem (by omega)⟩
  have hg := flat_get len36 xs (j / 3) (j % 3) x hx (Nat.mod_lt _ (by decide))
  rw [show j / 3 * 3 + j % 3 = j by omega] at hg
  rw [show newsC xs = xs.flatMap cells36 from rfl, hg] at hu
  obtain ⟨g', o', e, c0, c1, c2⟩ := h (j / 3) x hx
  cases e
  have hm : j % 3 = 0 ∨ j % 3 = 1 ∨ j % 3 = 2 := by omega
  rcases hm with e | e | e
  · rw [e] at hu
    simp [cells36] at hu
    subst hu
    rw [show o + j = o + j / 3 * 3 by omega]; exact c0
  · rw [e] at hu
    simp [cells36] at hu
    subst hu
    rw [show o + j = o + j / 3 * 3 + 1 by omega]; exact c1
  · rw [e] at hu
    simp [cells36] at hu
    subst hu
    rw [show o + j = o + j / 3 * 3 + 2 by omega]; exact c2
theorem NewsR.drop {w : World} {g o : Nat} {xs : List S36} (h : NewsR w (some ⟨g, o, none⟩) xs) (n : Nat) : NewsR w (some ⟨g, o + n * 3, none⟩) (xs.drop n) := fun i x hx => by
  rw [List.getElem?_drop] at hx
  obtain ⟨g', o', e, c0, c1, c2⟩ := h (n + i) x hx
  cases e
  rw [show o + (n + i) * 3 = o + n * 3 + i * 3 by omega] at c0 c1 c2
  exact ⟨g, _, rfl, c0, c1, c2⟩
theorem NewsR.take {w : World} {A : Option Addr} {xs : List S36} (h : NewsR w A xs) (n : Nat) : NewsR w A (xs.take n) := fun i x hx => by
  rw [List.getElem?_take] at hx
  split at hx
  · exact h i x hx
  · cases hx
theorem newsC_app (a b : List S36) : newsC (a ++ b) = newsC a ++ newsC b := List.flatMap_append
theorem newsC_all (xs : List S36) : ∀ u ∈ newsC xs, u.oneCell' = true := by
  intro u hu
  obtain ⟨x, _, hx⟩ := List.mem_flatMap.1 hu
  simp [cells36] at hx
  rcases hx with rfl | rfl | rfl <;> rfl
end Go.Proofs.Ythpfknigommheaa
