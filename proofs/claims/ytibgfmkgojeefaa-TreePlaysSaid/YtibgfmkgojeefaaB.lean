/- What a tree's nodes are, out of its leaves, and what turning a leaf does to them: plain facts with no walk. -/
import Derived.Test.YtibgfmkgojeefaaMix
namespace Go.Proofs.Ytibgfmkgojeefaa

/-- The node i of the tree whose leaves are lv: the root is 1, the children of i are 2 i and 2 i + 1. -/
def nd (lv : Nat → Nat) (i : Nat) : Nat := if h : i = 0 ∨ 64 ≤ i then lv (i - 64) else Mx.two (nd lv (2 * i)) (nd lv (2 * i + 1))
termination_by 128 - i
theorem nd_leaf (lv : Nat → Nat) (j : Nat) : nd lv (64 + j) = lv j := by
  rw [nd, dif_pos (by omega), show 64 + j - 64 = j by omega]
theorem nd_big (lv : Nat → Nat) {i : Nat} (h : 64 ≤ i) : nd lv i = lv (i - 64) := by rw [nd, dif_pos (by omega)]
theorem nd_up (lv : Nat → Nat) {i : Nat} (h0 : 1 ≤ i) (h1 : i < 64) : nd lv i = Mx.two (nd lv (2 * i)) (nd lv (2 * i + 1)) := by
  rw [nd, dif_neg (by omega)]
theorem nd_lt (lv : Nat → Nat) (hl : ∀ j, lv j < 2 ^ 64) (i : Nat) : nd lv i < 2 ^ 64 := by
  by_cases h : i = 0 ∨ 64 ≤ i
  · rw [nd, dif_pos h]; exact hl _
  · rw [nd, dif_neg h]; exact Mx.two_lt _ _
/-- An induction from the leaves up. -/
theorem up_ind {p : Nat → Prop} (leaf : ∀ i, 64 ≤ i → i < 128 → p i) (node : ∀ i, 1 ≤ i → i < 64 → p (2 * i) → p (2 * i + 1) → p i) : ∀ i, 1 ≤ i → i < 128 → p i := by
  have key : ∀ d i, 128 - i ≤ d → 1 ≤ i → i < 128 → p i := by
    intro d
    induction d with
    | zero => intro i h _ h1; omega
    | succ d ih =>
      intro i h h0 h1
      by_cases hl : 64 ≤ i
      · exact leaf i hl h1
      · exact node i h0 (by omega) (ih _ (by omega) (by omega) (by omega)) (ih _ (by omega) (by omega) (by omega))
  intro i h0 h1
  exact key 128 i (by omega) h0 h1
def turn (lv : Nat → Nat) (j x : Nat) : Nat → Nat := fun k => if k = j then lv k ^^^ x else lv k
/-- Is k above i, or i itself? -/
def Above (k i : Nat) : Prop := ∃ t, k = i / 2 ^ t
theorem above_half {k i : Nat} (h : Above k i) : Above (k / 2) i := by
  obtain ⟨t, rfl⟩ := h
  exact ⟨t + 1, by rw [Nat.div_div_eq_div_mul, Nat.pow_succ]⟩
theorem above_cases {k i : Nat} (h : Above k i) : k = i ∨ Above k (i / 2) := by
  obtain ⟨t, rfl⟩ := h
  cases t with
  | zero => left; simp
  | succ t => right; exact ⟨t, by rw [Nat.div_div_eq_div_mul, Nat.pow_succ, Nat.mul_comm]⟩
theorem above_of_half {k i : Nat} (h : Above k (i / 2)) : Above k i := by
  obtain ⟨t, rfl⟩ := h
  exact ⟨t + 1, by rw [Nat.div_div_eq_div_mul, Nat.pow_succ, Nat.mul_comm]⟩
theorem above_self (i : Nat) : Above i i := ⟨0, by simp⟩
theorem above_le {k i : Nat} (h : Above k i) : k ≤ i := by obtain ⟨t, rfl⟩ := h; exact Nat.div_le_self _ _
theorem nd_same (lv : Nat → Nat) (j x : Nat) : ∀ k, 1 ≤ k → k < 128 → ¬ Above k (64 + j) → nd (turn lv j x) k = nd lv k := by
  refine up_ind ?_ ?_
  · intro i h0 h1 ha
    rw [nd_big _ h0, nd_big _ h0]
    unfold turn
    rw [if_neg]
    intro e
    exact ha ⟨0, by simp; omega⟩
  · intro i h0 h1 iha ihb ha
    rw [nd_up _ h0 h1, nd_up _ h0 h1, iha, ihb]
    · intro h; exact ha (by have := above_half h; rwa [show (2 * i + 1) / 2 = i by omega] at this)
    · intro h; exact ha (by have := above_half h; rwa [show 2 * i / 2 = i by omega] at this)

/-- The numbers L are right but for those that stand above j, j itself not among them. -/
def But (lv : Nat → Nat) (L : List Nat) (j : Nat) : Prop := ∀ k, 1 ≤ k → k < 128 → ¬ Above k (j / 2) → L[k]? = some (nd lv k)
theorem but_start {lv : Nat → Nat} {L : List Nat} (hL : ∀ k, 1 ≤ k → k < 128 → L[k]? = some (nd lv k)) (hlen : L.length = 128) (j x : Nat) (hj : j < 64) :
    But (turn lv j x) (L.set (64 + j) (lv j ^^^ x)) (64 + j) := by
  intro k h0 h1 ha
  by_cases hk : k = 64 + j
  · subst hk
    rw [List.getElem?_set_self (by omega), nd_leaf]
    simp [turn]
  · rw [List.getElem?_set_ne (by omega), hL k h0 h1, nd_same]
    · exact h0
    · exact h1
    · intro h
      rcases above_cases h with h | h
      · exact hk h
      · exact ha h
theorem but_step {lv : Nat → Nat} {L : List Nat} {j : Nat} (hj : 1 < j) (hj2 : j < 128) (h : But lv L j) (hlen : L.length = 128) :
    L[2 * (j / 2)]? = some (nd lv (2 * (j / 2))) ∧ L[2 * (j / 2) + 1]? = some (nd lv (2 * (j / 2) + 1)) ∧ But lv (L.set (j / 2) (Mx.two (nd lv (2 * (j / 2))) (nd lv (2 * (j / 2) + 1)))) (j / 2) := by
  have a1 : L[2 * (j / 2)]? = some (nd lv (2 * (j / 2))) := h _ (by omega) (by omega) (fun e => by have := above_le e; omega)
  have a2 : L[2 * (j / 2) + 1]? = some (nd lv (2 * (j / 2) + 1)) := h _ (by omega) (by omega) (fun e => by have := above_le e; omega)
  refine ⟨a1, a2, ?_⟩
  intro k h0 h1 ha
  by_cases hk : k = j / 2
  · subst hk
    rw [List.getElem?_set_self (by omega), ← nd_up lv (by omega) (by omega)]
  · rw [List.getElem?_set_ne (by omega)]
    refine h k h0 h1 (fun e => ?_)
    rcases above_cases e with e | e
    · exact hk e
    · exact ha e
theorem but_end {lv : Nat → Nat} {L : List Nat} (h : But lv L 1) : ∀ k, 1 ≤ k → k < 128 → L[k]? = some (nd lv k) := by
  intro k h0 h1
  refine h k h0 h1 (fun e => ?_)
  have := above_le e
  omega
theorem nd_zero : ∀ i, 1 ≤ i → i < 128 → nd (fun _ => 0) i = 0 := by
  refine up_ind ?_ ?_
  · intro i h0 _; rw [nd_big _ h0]
  · intro i h0 h1 a b; rw [nd_up _ h0 h1, a, b, Mx.two00]
end Go.Proofs.Ytibgfmkgojeefaa
