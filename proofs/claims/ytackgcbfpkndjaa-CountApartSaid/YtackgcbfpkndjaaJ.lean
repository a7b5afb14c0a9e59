/- What many additions come to, whatever their order: plain facts with no walk. -/
import Derived.Test.YtackgcbfpkndjaaH
namespace Go.Proofs.Ytackgcbfpkndjaa

open Classical in
noncomputable def step (s : ByteArray) (a : Int) (o : OpV) : Int := if o.s = s then addTo a o.n else a
noncomputable def cnt (s : ByteArray) (l : List OpV) : Int := l.foldl (step s) 0
theorem cnt_snoc (s : ByteArray) (l : List OpV) (o : OpV) : cnt s (l ++ [o]) = step s (cnt s l) o := by simp [cnt, List.foldl_append]
theorem step_hit {s : ByteArray} {o : OpV} (a : Int) (h : o.s = s) : step s a o = addTo a o.n := by unfold step; rw [if_pos h]
theorem step_miss {s : ByteArray} {o : OpV} (a : Int) (h : o.s ≠ s) : step s a o = a := by unfold step; rw [if_neg h]
theorem step_range {s : ByteArray} {o : OpV} {a : Int} (ho : 0 ≤ o.n) (h0 : 0 ≤ a) (h1 : a ≤ 18446744073709551615) : 0 ≤ step s a o ∧ step s a o ≤ 18446744073709551615 := by
  unfold step
  split
  · exact addTo_range h0 ho
  · exact ⟨h0, h1⟩
theorem fold_range (s : ByteArray) (l : List OpV) : ∀ a, (∀ o ∈ l, 0 ≤ o.n) → 0 ≤ a → a ≤ 18446744073709551615 → 0 ≤ l.foldl (step s) a ∧ l.foldl (step s) a ≤ 18446744073709551615 := by
  induction l with
  | nil => intro a _ h0 h1; exact ⟨h0, h1⟩
  | cons o r ih =>
    intro a h h0 h1
    obtain ⟨g0, g1⟩ := step_range (s := s) (h o List.mem_cons_self) h0 h1
    exact ih _ (fun p hp => h p (List.mem_cons_of_mem _ hp)) g0 g1
theorem cnt_range (s : ByteArray) (l : List OpV) (h : ∀ o ∈ l, 0 ≤ o.n) : 0 ≤ cnt s l ∧ cnt s l ≤ 18446744073709551615 := fold_range s l 0 h (by omega) (by omega)
theorem addTo_comm {a x y : Int} (hx : 0 ≤ x) (hy : 0 ≤ y) : addTo (addTo a x) y = addTo (addTo a y) x := by
  unfold addTo
  repeat split
  all_goals omega
theorem step_comm (s : ByteArray) (a : Int) (o p : OpV) (ho : 0 ≤ o.n) (hp : 0 ≤ p.n) : step s (step s a o) p = step s (step s a p) o := by
  unfold step
  by_cases h1 : o.s = s <;> by_cases h2 : p.s = s <;> simp only [h1, h2, if_true, if_false]
  exact addTo_comm ho hp
theorem cnt_perm (s : ByteArray) {l l' : List OpV} (hp : l.Perm l') (h : ∀ o ∈ l, 0 ≤ o.n) : cnt s l = cnt s l' :=
  hp.foldl_eq' (fun x hx y hy z => step_comm s z x y (h x hx) (h y hy)) 0

theorem rev_range (n : Nat) : (List.range n).reverse = (List.range n).map (fun i => n - 1 - i) := by
  apply List.ext_getElem
  · simp
  · intro i h1 h2
    simp
theorem turn_idx (n m : Nat) : (List.range ((n + 1) + m)).map (fun i => (n + ((n + 1) + m) - i) % ((n + 1) + m)) = (List.range (n + 1)).reverse ++ ((List.range m).map ((n + 1) + ·)).reverse := by
  rw [List.range_add (n := n + 1) (m := m), List.map_append]
  congr 1
  · rw [rev_range]
    refine List.map_congr_left fun i hi => ?_
    rw [List.mem_range] at hi
    rw [show n + ((n + 1) + m) - i = (n - i) + ((n + 1) + m) by omega, Nat.add_mod_right, Nat.mod_eq_of_lt (by omega)]
    omega
  · rw [List.map_map, ← List.map_reverse, rev_range, List.map_map]
    refine List.map_congr_left fun i hi => ?_
    rw [List.mem_range] at hi
    show (n + ((n + 1) + m) - ((n + 1) + i)) % ((n + 1) + m) = (n + 1) + (m - 1 - i)
    rw [Nat.mod_eq_of_lt (by omega)]
    omega
theorem turn_perm {len n : Nat} (hn : n < len) : ((List.range len).map (fun i => (n + len - i) % len)).Perm (List.range len) := by
  obtain ⟨m, rfl⟩ : ∃ m, len = (n + 1) + m := ⟨len - (n + 1), by omega⟩
  rw [turn_idx, List.range_add (n := n + 1) (m := m)]
  exact (List.reverse_perm _).append (List.reverse_perm _)
def o0 : OpV := ⟨false, ByteArray.empty, 0⟩
/-- The calls in their other order, the first k of them. -/
def turned (ops : List OpV) (n k : Nat) : List OpV := (List.range k).map (fun i => ops.getD ((n + ops.length - i) % ops.length) o0)
theorem turned_snoc (ops : List OpV) (n k : Nat) : turned ops n (k + 1) = turned ops n k ++ [ops.getD ((n + ops.length - k) % ops.length) o0] := by
  unfold turned; rw [List.range_succ, List.map_append]; rfl
theorem map_getD (ops : List OpV) : (List.range ops.length).map (fun i => ops.getD i o0) = ops := by
  apply List.ext_getElem
  · simp
  · intro i h1 h2
    simp [List.getD_eq_getElem?_getD, List.getElem?_eq_getElem h2]
theorem turned_perm {ops : List OpV} {n : Nat} (hn : n < ops.length) : (turned ops n ops.length).Perm ops := by
  have h := (turn_perm hn).map (fun i => ops.getD i o0)
  rw [List.map_map, map_getD] at h
  exact h
theorem turned_nonneg {ops : List OpV} (h : ∀ o ∈ ops, 0 ≤ o.n) (n k : Nat) : ∀ o ∈ turned ops n k, 0 ≤ o.n := by
  intro o ho
  obtain ⟨i, _, rfl⟩ := List.mem_map.1 ho
  rw [List.getD_eq_getElem?_getD]
  cases e : ops[(n + ops.length - i) % ops.length]? with
  | none => exact Int.le_refl _
  | some p => exact h p (List.mem_of_getElem? e)
end Go.Proofs.Ytackgcbfpkndjaa
