/- What a walk finds, plainly: it differs, in order; nothing where the trees are the same; alike from either side; the chapter's example. -/
import Derived.Test.YtibgfmkgojeefaaG
namespace Go.Proofs.Ytibgfmkgojeefaa

theorem not_above_less {k i : Nat} (h : i < k) : ¬ Above k i := fun ha => by have := above_le ha; omega
theorem not_above_half {k i : Nat} (h : k ≠ i) (h2 : ¬ Above k (i / 2)) : ¬ Above k i := fun ha => by
  rcases above_cases ha with h1 | h1
  · exact h h1
  · exact h2 h1
def zero : Nat → Nat := fun _ => 0
theorem dn_left_step {a b : Nat → Nat} {d i n : Nat} {xs : List Nat} (hne : ¬ nd a i = nd b i) (h : dn a b d (2 * i) = (xs, n)) (hs : nd a (2 * i + 1) = nd b (2 * i + 1)) : dn a b (d + 1) i = (xs, 1 + n + 1) := by
  rw [dn_more _ _ _ _ hne, h, dn_same _ _ _ _ hs, List.append_nil]
theorem dn_right_step {a b : Nat → Nat} {d i n : Nat} {xs : List Nat} (hne : ¬ nd a i = nd b i) (h : dn a b d (2 * i + 1) = (xs, n)) (hs : nd a (2 * i) = nd b (2 * i)) : dn a b (d + 1) i = (xs, 1 + 1 + n) := by
  rw [dn_more _ _ _ _ hne, h, dn_same _ _ _ _ hs, List.nil_append]
theorem two_left {x : Nat} (hx : x < 2 ^ 64) (h : x ≠ 0) : Mx.two x 0 ≠ 0 := fun e => h (Mx.two_first hx (by decide) (by decide) (e.trans Mx.two00.symm))
theorem two_right {x : Nat} (hx : x < 2 ^ 64) (h : x ≠ 0) : Mx.two 0 x ≠ 0 := fun e => h (Mx.two_inj hx (by decide) (e.trans Mx.two00.symm))
theorem turn_lt {lv : Nat → Nat} (h : ∀ j, lv j < 2 ^ 64) (j x : Nat) (hx : x < 2 ^ 64) : ∀ k, turn lv j x k < 2 ^ 64 := fun k => by
  unfold turn
  split
  · exact Mx.xor_lt (h _) hx
  · exact h _
theorem zero_lt (j : Nat) : zero j < 2 ^ 64 := by unfold zero; decide
/-- The chapter's example. -/
theorem dn_example : dn (turn zero 5 9) zero 6 1 = ([5], 13) := by
  have hz : ∀ k, 1 ≤ k → k < 128 → nd zero k = 0 := fun k h0 h1 => nd_zero k h0 h1
  have hs : ∀ k, 1 ≤ k → k < 128 → ¬ Above k (64 + 5) → nd (turn zero 5 9) k = 0 := fun k h0 h1 ha => (nd_same zero 5 9 k h0 h1 ha).trans (hz k h0 h1)
  have hl := nd_lt (turn zero 5 9) (turn_lt zero_lt 5 9 (by decide))
  have v69 : nd (turn zero 5 9) 69 = 9 := by rw [nd_leaf _ 5]; unfold turn zero; rw [if_pos rfl]; decide
  have s68 : nd (turn zero 5 9) 68 = 0 := hs 68 (by decide) (by decide) (not_above_half (by decide) (not_above_less (by decide)))
  have s35 : nd (turn zero 5 9) 35 = 0 := hs 35 (by decide) (by decide) (not_above_half (by decide) (not_above_less (by decide)))
  have s16 : nd (turn zero 5 9) 16 = 0 := hs 16 (by decide) (by decide) (not_above_half (by decide) (not_above_half (by decide) (not_above_half (by decide) (not_above_less (by decide)))))
  have s9 : nd (turn zero 5 9) 9 = 0 := hs 9 (by decide) (by decide) (not_above_half (by decide) (not_above_half (by decide) (not_above_half (by decide) (not_above_less (by decide)))))
  have s5 : nd (turn zero 5 9) 5 = 0 := hs 5 (by decide) (by decide) (not_above_half (by decide) (not_above_half (by decide) (not_above_half (by decide) (not_above_half (by decide) (not_above_less (by decide))))))
  have s3 : nd (turn zero 5 9) 3 = 0 := hs 3 (by decide) (by decide) (not_above_half (by decide) (not_above_half (by decide) (not_above_half (by decide) (not_above_half (by decide) (not_above_half (by decide) (not_above_less (by decide)))))))
  have u : ∀ k, 1 ≤ k → k < 64 → nd (turn zero 5 9) k = Mx.two (nd (turn zero 5 9) (2 * k)) (nd (turn zero 5 9) (2 * k + 1)) := fun k h0 h1 => nd_up _ h0 h1
  have v34 : nd (turn zero 5 9) 34 ≠ 0 := by rw [u 34 (by decide) (by decide), s68, v69]; exact two_right (by decide) (by decide)
  have v17 : nd (turn zero 5 9) 17 ≠ 0 := by rw [u 17 (by decide) (by decide), s35]; exact two_left (hl _) v34
  have v8 : nd (turn zero 5 9) 8 ≠ 0 := by rw [u 8 (by decide) (by decide), s16]; exact two_right (hl _) v17
  have v4 : nd (turn zero 5 9) 4 ≠ 0 := by rw [u 4 (by decide) (by decide), s9]; exact two_left (hl _) v8
  have v2 : nd (turn zero 5 9) 2 ≠ 0 := by rw [u 2 (by decide) (by decide), s5]; exact two_left (hl _) v4
  have v1 : nd (turn zero 5 9) 1 ≠ 0 := by rw [u 1 (by decide) (by decide), s3]; exact two_left (hl _) v2
  have ne : ∀ {k}, 1 ≤ k → k < 128 → nd (turn zero 5 9) k ≠ 0 → ¬ nd (turn zero 5 9) k = nd zero k := fun h0 h1 h => by rw [hz _ h0 h1]; exact h
  have eq : ∀ {k}, 1 ≤ k → k < 128 → nd (turn zero 5 9) k = 0 → nd (turn zero 5 9) k = nd zero k := fun h0 h1 h => by rw [hz _ h0 h1]; exact h
  have d0 : dn (turn zero 5 9) zero 0 69 = ([5], 1) := dn_leaf _ _ 69 (ne (by decide) (by decide) (by rw [v69]; decide))
  have d1 : dn (turn zero 5 9) zero 1 34 = ([5], 3) := dn_right_step (i := 34) (ne (by decide) (by decide) v34) d0 (eq (by decide) (by decide) s68)
  have d2 : dn (turn zero 5 9) zero 2 17 = ([5], 5) := dn_left_step (i := 17) (ne (by decide) (by decide) v17) d1 (eq (by decide) (by decide) s35)
  have d3 : dn (turn zero 5 9) zero 3 8 = ([5], 7) := dn_right_step (i := 8) (ne (by decide) (by decide) v8) d2 (eq (by decide) (by decide) s16)
  have d4 : dn (turn zero 5 9) zero 4 4 = ([5], 9) := dn_left_step (i := 4) (ne (by decide) (by decide) v4) d3 (eq (by decide) (by decide) s9)
  have d5 : dn (turn zero 5 9) zero 5 2 = ([5], 11) := dn_left_step (i := 2) (ne (by decide) (by decide) v2) d4 (eq (by decide) (by decide) s5)
  exact dn_left_step (i := 1) (ne (by decide) (by decide) v1) d5 (eq (by decide) (by decide) s3)
theorem found_example : found (turn zero 5 9) zero = [5] := by rw [← found_eq, dn_example]
theorem looked_example : looked (turn zero 5 9) zero = 13 := by rw [← looked_eq, dn_example]

theorem looked_bound (a b : Nat → Nat) : 1 ≤ looked a b ∧ looked a b ≤ 127 := by
  have h := dn_bound a b 6 1
  rw [looked_eq] at h
  have e : 2 ^ (6 + 1) = 128 := by decide
  rw [e] at h
  omega
theorem found_len (a b : Nat → Nat) : (found a b).length ≤ 64 := by
  have h := (dn_bound a b 6 1).2.2
  rw [found_eq] at h
  have e : 2 ^ 6 = 64 := by decide
  rw [e] at h
  omega
theorem found_same {a b : Nat → Nat} (h : nd a 1 = nd b 1) : found a b = [] ∧ looked a b = 1 := by
  rw [← found_eq, ← looked_eq, dn_same _ _ _ _ h]
  exact ⟨rfl, rfl⟩
theorem dn_comm (a b : Nat → Nat) : ∀ d i, dn a b d i = dn b a d i
  | 0, i => by
    by_cases h : nd a i = nd b i
    · rw [dn_same _ _ _ _ h, dn_same _ _ _ _ h.symm]
    · rw [dn_leaf _ _ _ h, dn_leaf _ _ _ (fun e => h e.symm)]
  | d + 1, i => by
    by_cases h : nd a i = nd b i
    · rw [dn_same _ _ _ _ h, dn_same _ _ _ _ h.symm]
    · rw [dn_more _ _ _ _ h, dn_more _ _ _ _ (fun e => h e.symm), dn_comm a b d, dn_comm a b d]
theorem found_comm (a b : Nat → Nat) : found a b = found b a := by rw [← found_eq, ← found_eq, dn_comm]
theorem looked_comm (a b : Nat → Nat) : looked a b = looked b a := by rw [← looked_eq, ← looked_eq, dn_comm]
/-- What is found differs; it lies below the node; it is in order; and something is found, if the node differs. -/
theorem dn_found (a b : Nat → Nat) : ∀ d i, 64 ≤ i * 2 ^ d → (i + 1) * 2 ^ d ≤ 128 →
    (∀ x ∈ (dn a b d i).1, i * 2 ^ d ≤ x + 64 ∧ x + 64 < (i + 1) * 2 ^ d ∧ a x ≠ b x) ∧ (dn a b d i).1.Pairwise (· < ·) ∧ (¬ nd a i = nd b i → (dn a b d i).1 ≠ [])
  | 0, i => fun h0 h1 => by
    rw [Nat.pow_zero, Nat.mul_one] at h0 h1
    by_cases h : nd a i = nd b i
    · rw [dn_same _ _ _ _ h]
      exact ⟨fun x hx => absurd hx (List.not_mem_nil), List.Pairwise.nil, fun hn => absurd h hn⟩
    · rw [dn_leaf _ _ _ h]
      rw [nd_big _ h0, nd_big _ h0] at h
      refine ⟨fun x hx => ?_, by simp, fun _ => by simp⟩
      rw [List.mem_singleton] at hx
      subst hx
      rw [Nat.pow_zero, Nat.mul_one, Nat.mul_one]
      exact ⟨by omega, by omega, h⟩
  | d + 1, i => fun h0 h1 => by
    obtain ⟨p0, p1⟩ := dn_pos h0 h1
    obtain ⟨⟨q0, q1⟩, q2, q3⟩ := dn_left h0 h1
    have e1 : i * 2 ^ (d + 1) = 2 * i * 2 ^ d := by rw [Nat.pow_succ, Nat.mul_comm (2 ^ d) 2, ← Nat.mul_assoc, Nat.mul_comm i 2]
    have e2 : (i + 1) * 2 ^ (d + 1) = (2 * i + 1 + 1) * 2 ^ d := by rw [Nat.pow_succ, Nat.mul_comm (2 ^ d) 2, ← Nat.mul_assoc, show (i + 1) * 2 = 2 * i + 1 + 1 by omega]
    have e3 : 2 * i * 2 ^ d ≤ (2 * i + 1) * 2 ^ d := Nat.mul_le_mul_right _ (by omega)
    have e4 : (2 * i + 1) * 2 ^ d ≤ (2 * i + 1 + 1) * 2 ^ d := Nat.mul_le_mul_right _ (by omega)
    by_cases h : nd a i = nd b i
    · rw [dn_same _ _ _ _ h]
      exact ⟨fun x hx => absurd hx (List.not_mem_nil), List.Pairwise.nil, fun hn => absurd h hn⟩
    · rw [dn_more _ _ _ _ h, e1, e2]
      obtain ⟨l1, l2, l3⟩ := dn_found a b d (2 * i) q0 q1
      obtain ⟨r1, r2, r3⟩ := dn_found a b d (2 * i + 1) q2 q3
      refine ⟨fun x hx => ?_, ?_, fun _ hn => ?_⟩
      · rcases List.mem_append.1 hx with hx | hx
        · have := l1 x hx; exact ⟨this.1, by omega, this.2.2⟩
        · have := r1 x hx; exact ⟨by omega, this.2.1, this.2.2⟩
      · rw [List.pairwise_append]
        exact ⟨l2, r2, fun x hx y hy => by have := l1 x hx; have := r1 y hy; omega⟩
      · obtain ⟨hn1, hn2⟩ := List.append_eq_nil_iff.1 hn
        apply h
        rw [nd_up a p0 p1, nd_up b p0 p1, Classical.byContradiction (fun hh => l3 hh hn1), Classical.byContradiction (fun hh => r3 hh hn2)]
theorem found_law (a b : Nat → Nat) : (∀ x ∈ found a b, x < 64 ∧ a x ≠ b x) ∧ (found a b).Pairwise (· < ·) ∧ (¬ nd a 1 = nd b 1 → found a b ≠ []) := by
  have h := dn_found a b 6 1 (by decide) (by decide)
  rw [found_eq] at h
  have e : (1 + 1) * 2 ^ 6 = 128 := by decide
  rw [e] at h
  exact ⟨fun x hx => ⟨by have := (h.1 x hx).2.1; omega, (h.1 x hx).2.2⟩, h.2.1, h.2.2⟩
end Go.Proofs.Ytibgfmkgojeefaa
