/- What hearing a whole view does, plainly; and that of all but self the newest is believed. No walk. -/
import Derived.Test.YthpfknigommheaaVj
namespace Go.Proofs.Ythpfknigommheaa
open Go.RowKit PViewTells

theorem rd_at {l : List S33} {i : Nat} {x : S33} (h : l[i]? = some x) : rd_T33 l (i : Int) = x := by
  unfold rd_T33
  rw [Int.toNat_natCast, List.getD_eq_getElem?_getD, h]
  rfl
theorem heardFrom_append (self : Int) (s : List S33 × List S36) (l l' : List S36) : heardFrom self s (l ++ l') = heardFrom self (heardFrom self s l) l' := List.foldl_append
theorem heardFrom_one (self : Int) (s : List S33 × List S36) (x : S36) : heardFrom self s [x] = stepN self s x := rfl
theorem mod256 {k : Nat} (h : k < 256) : (k : Int) % 256 = (k : Int) := by omega
/-- Behind the first k news of a whole view. -/
theorem heard_all (self : Int) (v w : List S33) : ∀ k, k ≤ 64 → ((heardFrom self (v, []) (allL w k)).1.length = v.length) ∧
    ∀ (i : Nat) (m : S33), v[i]? = some m → (heardFrom self (v, []) (allL w k)).1[i]? = some (if i < k then hear1 m ((i : Int) == self) (rd_T33 w (i : Int)) else m)
  | 0, _ => ⟨rfl, fun i m h => by rw [if_neg (Nat.not_lt_zero _)]; exact h⟩
  | k + 1, hk => by
    obtain ⟨h1, h2⟩ := heard_all self v w k (by omega)
    rw [allL_more, heardFrom_append, heardFrom_one]
    obtain ⟨out, ch, hoc⟩ : ∃ out ch, heardFrom self (v, []) (allL w k) = (out, ch) := ⟨_, _, rfl⟩
    rw [hoc] at h1 h2 ⊢
    rw [mod256 (by omega)]
    simp only at h1 h2
    refine ⟨(stepN_len self (out, ch) _).1.trans h1, fun i m hi => ?_⟩
    have hi2 := h2 i m hi
    unfold stepN
    simp only [Int.toNat_natCast]
    split
    · rename_i hn
      have : i ≠ k := fun e => by rw [e, hn] at hi2; cases hi2
      rw [hi2]
      by_cases hik : i < k
      · rw [if_pos hik, if_pos (by omega)]
      · rw [if_neg hik, if_neg (by omega)]
    · rename_i m0 hm0
      by_cases e : k = i
      · subst e
        rw [hm0, if_neg (Nat.lt_irrefl _)] at hi2
        cases hi2
        rw [if_pos (Nat.lt_succ_self _)]
        split
        · rename_i heq
          rw [eq33_iff.1 heq]
          exact hm0
        · exact List.getElem?_set_self (List.getElem?_eq_some_iff.1 hm0).1
      · have hcond : (if i < k + 1 then hear1 m ((i : Int) == self) (rd_T33 w (i : Int)) else m) = (if i < k then hear1 m ((i : Int) == self) (rd_T33 w (i : Int)) else m) := by
          by_cases hik : i < k
          · rw [if_pos hik, if_pos (by omega)]
          · rw [if_neg hik, if_neg (by omega)]
        rw [hcond]
        split
        · exact hi2
        · rw [List.getElem?_set_ne e]; exact hi2
/-- News that change nothing. -/
theorem heard_still (self : Int) (x w : List S33) (h : ∀ (i : Nat) (m : S33), x[i]? = some m → i < w.length → hear1 m ((i : Int) == self) (rd_T33 w (i : Int)) = m) : ∀ k, k ≤ w.length → k ≤ 64 → heardFrom self (x, []) (allL w k) = (x, [])
  | 0, _, _ => rfl
  | k + 1, hk, hk2 => by
    rw [allL_more, heardFrom_append, heard_still self x w h k (by omega) (by omega), heardFrom_one, mod256 (by omega)]
    unfold stepN
    simp only [Int.toNat_natCast]
    split
    · rfl
    · rename_i m0 hm0
      rw [h k m0 hm0 (by omega), if_pos (eq33_iff.2 rfl)]
def fine (m : S33) : Prop := 1 ≤ m.f0 ∧ m.f0 ≤ 4
theorem hear1_other {m x : S33} (hx : fine x) : hear1 m false x = if newer x m then x else m := by
  unfold hear1
  rw [if_neg (by unfold fine at hx; omega), if_neg (by decide)]
theorem newer_total {a b : S33} (h : newer a b = false) (k : newer b a = false) : a = b := by
  rw [← Bool.not_eq_true, newer_iff] at h k
  exact ext33 (by omega) (by omega)
/-- The newest of two is the same from either side. -/
theorem meet_two {a b : S33} (ha : fine a) (hb : fine b) : hear1 a false b = hear1 b false a := by
  rw [hear1_other hb, hear1_other ha]
  by_cases h : newer b a = true
  · rw [if_pos h]
    by_cases k : newer a b = true
    · have := newer_trans h k
      rw [newer_irrefl] at this
      cases this
    · rw [if_neg k]
  · rw [if_neg h]
    by_cases k : newer a b = true
    · rw [if_pos k]
    · rw [if_neg k]
      exact newer_total (by simpa using k) (by simpa using h)
/-- Whoever has heard of a member has none that is less new; and hearing of it again changes nothing. -/
theorem hear1_again {m x : S33} (self : Bool) (hx : fine x) (hi : x.f1 < 4294967295) : hear1 (hear1 m self x) self x = hear1 m self x := by
  cases self with
  | false =>
    rw [hear1_other hx (m := m), hear1_other hx]
    by_cases h : newer x m = true
    · rw [if_pos h, newer_irrefl, if_neg (by decide)]
    · rw [if_neg h, if_neg h]
  | true =>
    have hc : ¬ (x.f0 < 1 ∨ 4 < x.f0) := by unfold fine at hx; omega
    have key : ∀ y : S33, hear1 y true x = if y.f1 < x.f1 ∨ (x.f1 = y.f1 ∧ x.f0 ≠ 1) then ⟨1, bump x.f1⟩ else y := fun y => by
      unfold hear1
      rw [if_neg hc, if_pos rfl]
    rw [key m]
    by_cases h : m.f1 < x.f1 ∨ (x.f1 = m.f1 ∧ x.f0 ≠ 1)
    · rw [if_pos h, key]
      have hb : x.f1 < bump x.f1 := by unfold bump; omega
      rw [if_neg (fun h2 => by
        simp only at h2
        rcases h2 with h2 | ⟨h2, _⟩ <;> omega)]
    · rw [if_neg h, key, if_neg h]
theorem hear1_notnewer {m x : S33} (hx : fine x) : newer x (hear1 m false x) = false := by
  rw [hear1_other hx]
  by_cases h : newer x m = true
  · rw [if_pos h]; exact newer_irrefl x
  · rw [if_neg h]; simpa using h
end Go.Proofs.Ythpfknigommheaa
