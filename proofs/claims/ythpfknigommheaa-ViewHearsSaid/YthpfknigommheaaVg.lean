/- What the printed functions compute, plainly: comparing, a view as news, who is up, a fresh view. No walk. -/
import Derived.Test.YthpfknigommheaaVf
namespace Go.Proofs.Ythpfknigommheaa
open Go.RowKit PViewTells Go.Proofs.YthpfknigommheaaW.PrintWords Go.Proofs.YthpfknigommheaaW.PrintMore

theorem wrap_next {i : Nat} (h : i < 9223372036854775807) : wrap64 ((i : Int) + 1) = ((i + 1 : Nat) : Int) := by unfold wrap64; omega
theorem same_l0 (l : List S33) (hl : l.length < 9223372036854775807) : ∀ (d i k : Nat), i + d = l.length → d < k → tattlerref17_Same.l0 k l l (l.length : Int) (i : Int) = some true
  | 0, i, k, hd, hk => by
    obtain ⟨k, rfl⟩ : ∃ m, k = m + 1 := ⟨k - 1, by omega⟩
    simp only [tattlerref17_Same.l0]
    rw [if_neg (by omega)]
  | d + 1, i, k, hd, hk => by
    obtain ⟨k, rfl⟩ : ∃ m, k = m + 1 := ⟨k - 1, by omega⟩
    simp only [tattlerref17_Same.l0]
    rw [if_pos (by omega), if_pos (by omega), if_pos (by omega), if_pos (by omega), if_neg (by simp), wrap_next (by omega)]
    exact same_l0 l hl d (i + 1) k (by omega) (by omega)
theorem same_f (l : List S33) (hl : l.length ≤ 1000) : tattlerref17_Same.f 2000 l l = some true := by
  unfold tattlerref17_Same.f
  rw [if_pos rfl]
  exact same_l0 l (by omega) l.length 0 2000 (by omega) (by omega)
theorem samenews_l0 (l : List S36) (hl : l.length < 9223372036854775807) : ∀ (d i k : Nat), i + d = l.length → d < k → tattlerref17_SameNews.l0 k l l (l.length : Int) (i : Int) = some true
  | 0, i, k, hd, hk => by
    obtain ⟨k, rfl⟩ : ∃ m, k = m + 1 := ⟨k - 1, by omega⟩
    simp only [tattlerref17_SameNews.l0]
    rw [if_neg (by omega)]
  | d + 1, i, k, hd, hk => by
    obtain ⟨k, rfl⟩ : ∃ m, k = m + 1 := ⟨k - 1, by omega⟩
    simp only [tattlerref17_SameNews.l0]
    rw [if_pos (by omega), if_pos (by omega), if_pos (by omega), if_pos (by omega), if_neg (by simp), wrap_next (by omega)]
    exact samenews_l0 l hl d (i + 1) k (by omega) (by omega)
theorem samenews_f (l : List S36) (hl : l.length ≤ 1000) : tattlerref17_SameNews.f 2000 l l = some true := by
  unfold tattlerref17_SameNews.f
  rw [if_pos rfl]
  exact samenews_l0 l (by omega) l.length 0 2000 (by omega) (by omega)
theorem same16_l0 (l : List Int) (hl : l.length < 9223372036854775807) : ∀ (d i k : Nat), i + d = l.length → d < k → tattlerref16_Same.l0 k l l (l.length : Int) (i : Int) = some true
  | 0, i, k, hd, hk => by
    obtain ⟨k, rfl⟩ : ∃ m, k = m + 1 := ⟨k - 1, by omega⟩
    simp only [tattlerref16_Same.l0]
    rw [if_neg (by omega)]
  | d + 1, i, k, hd, hk => by
    obtain ⟨k, rfl⟩ : ∃ m, k = m + 1 := ⟨k - 1, by omega⟩
    simp only [tattlerref16_Same.l0]
    rw [if_pos (by omega), if_pos (by omega), if_pos (by omega), if_pos (by omega), if_pos trivial, wrap_next (by omega)]
    exact same16_l0 l hl d (i + 1) k (by omega) (by omega)
theorem same16_f (l : List Int) (hl : l.length ≤ 1000) : tattlerref16_Same.f 2000 l l = some true := by
  unfold tattlerref16_Same.f
  rw [if_pos rfl]
  exact same16_l0 l (by omega) l.length 0 2000 (by omega) (by omega)
/-- A view as news. -/
def allL (l : List S33) (k : Nat) : List S36 := (List.range k).map (fun i : Nat => ⟨(i : Int) % 256, rd_T33 l (i : Int)⟩)
theorem allL_len (l : List S33) (k : Nat) : (allL l k).length = k := by simp [allL]
theorem allL_more (l : List S33) (k : Nat) : allL l (k + 1) = allL l k ++ [⟨(k : Int) % 256, rd_T33 l (k : Int)⟩] := by simp [allL, List.range_succ]
theorem eta33 (x : S33) : (⟨x.f0, x.f1⟩ : S33) = x := rfl
theorem all_l0 (l : List S33) (hl : l.length ≤ 1000) : ∀ (d i k : Nat), i + d = l.length → d < k → view_All.l0 k (allL l i) l (l.length : Int) (i : Int) = some (allL l l.length)
  | 0, i, k, hd, hk => by
    obtain ⟨k, rfl⟩ : ∃ m, k = m + 1 := ⟨k - 1, by omega⟩
    simp only [view_All.l0]
    rw [if_neg (by omega), show i = l.length by omega]
  | d + 1, i, k, hd, hk => by
    obtain ⟨k, rfl⟩ : ∃ m, k = m + 1 := ⟨k - 1, by omega⟩
    simp only [view_All.l0]
    rw [if_pos (by omega), if_pos (by omega), if_pos (by omega), if_pos (by rw [allL_len]; omega), wrap_next (by omega), eta33, ← allL_more]
    exact all_l0 l hl d (i + 1) k (by omega) (by omega)
theorem all_f (l : List S33) (hl : l.length ≤ 1000) : view_All.f 2000 l = some (allL l l.length) := by
  unfold view_All.f
  exact all_l0 l hl l.length 0 2000 (by omega) (by omega)
theorem refall_l0 (l : List S33) (hl : l.length ≤ 1000) : ∀ (d i k : Nat), i + d = l.length → d < k → tattlerref17_All.l0 k l (allL l i) (l.length : Int) (i : Int) = some (allL l l.length)
  | 0, i, k, hd, hk => by
    obtain ⟨k, rfl⟩ : ∃ m, k = m + 1 := ⟨k - 1, by omega⟩
    simp only [tattlerref17_All.l0]
    rw [if_neg (by omega), show i = l.length by omega]
  | d + 1, i, k, hd, hk => by
    obtain ⟨k, rfl⟩ : ∃ m, k = m + 1 := ⟨k - 1, by omega⟩
    simp only [tattlerref17_All.l0]
    rw [if_pos (by omega), if_pos (by omega), if_pos (by omega), if_pos (by rw [allL_len]; omega), wrap_next (by omega), eta33, ← allL_more]
    exact refall_l0 l hl d (i + 1) k (by omega) (by omega)
theorem refall_f (l : List S33) (hl : l.length ≤ 1000) : tattlerref17_All.f 2000 l = some (allL l l.length) := by
  unfold tattlerref17_All.f
  exact refall_l0 l hl l.length 0 2000 (by omega) (by omega)
/-- Who is up among the first k. -/
def upL (l : List S33) : Nat → List Int
  | 0 => []
  | k + 1 => if (rd_T33 l (k : Int)).f0 = 1 ∨ (rd_T33 l (k : Int)).f0 = 2 then upL l k ++ [(k : Int) % 256] else upL l k
theorem upL_succ (l : List S33) (k : Nat) : upL l (k + 1) = if (rd_T33 l (k : Int)).f0 = 1 ∨ (rd_T33 l (k : Int)).f0 = 2 then upL l k ++ [(k : Int) % 256] else upL l k := rfl
theorem upL_len (l : List S33) : ∀ k, (upL l k).length ≤ k
  | 0 => Nat.le_refl _
  | k + 1 => by
    unfold upL
    have := upL_len l k
    split
    · rw [List.length_append]; exact Nat.succ_le_succ this
    · omega
theorem up_l0 (l : List S33) (hl : l.length ≤ 1000) : ∀ (d i k : Nat), i + d = l.length → d < k → view_Up.l0 k (upL l i) l (l.length : Int) (i : Int) = some (upL l l.length)
  | 0, i, k, hd, hk => by
    obtain ⟨k, rfl⟩ : ∃ m, k = m + 1 := ⟨k - 1, by omega⟩
    simp only [view_Up.l0]
    rw [if_neg (by omega), show i = l.length by omega]
  | d + 1, i, k, hd, hk => by
    obtain ⟨k, rfl⟩ : ∃ m, k = m + 1 := ⟨k - 1, by omega⟩
    have ih := up_l0 l hl d (i + 1) k (by omega) (by omega)
    have hlen : (upL l i).length < 140737488355328 := by have := upL_len l i; omega
    simp only [view_Up.l0]
    rw [if_pos (by omega), if_pos (by omega), if_pos (by omega), wrap_next (by omega)]
    rw [upL_succ] at ih
    by_cases h1 : (rd_T33 l (i : Int)).f0 = 1
    · rw [if_pos h1, if_pos hlen]
      rw [if_pos (Or.inl h1)] at ih
      exact ih
    · rw [if_neg h1]
      by_cases h2 : (rd_T33 l (i : Int)).f0 = 2
      · rw [if_pos h2, if_pos hlen]
        rw [if_pos (Or.inr h2)] at ih
        exact ih
      · rw [if_neg h2]
        rw [if_neg (fun h => h.elim h1 h2)] at ih
        exact ih
theorem up_f (l : List S33) (hl : l.length ≤ 1000) : view_Up.f 2000 l = some (upL l l.length) := by
  unfold view_Up.f
  exact up_l0 l hl l.length 0 2000 (by omega) (by omega)
theorem refup_l0 (l : List S33) (hl : l.length ≤ 1000) : ∀ (d i k : Nat), i + d = l.length → d < k → tattlerref17_Up.l0 k l (upL l i) (l.length : Int) (i : Int) = some (upL l l.length)
  | 0, i, k, hd, hk => by
    obtain ⟨k, rfl⟩ : ∃ m, k = m + 1 := ⟨k - 1, by omega⟩
    simp only [tattlerref17_Up.l0]
    rw [if_neg (by omega), show i = l.length by omega]
  | d + 1, i, k, hd, hk => by
    obtain ⟨k, rfl⟩ : ∃ m, k = m + 1 := ⟨k - 1, by omega⟩
    have ih := refup_l0 l hl d (i + 1) k (by omega) (by omega)
    have hlen : (upL l i).length < 140737488355328 := by have := upL_len l i; omega
    simp only [tattlerref17_Up.l0]
    rw [if_pos (by omega), if_pos (by omega), if_pos (by omega), wrap_next (by omega)]
    rw [upL_succ] at ih
    by_cases h1 : (rd_T33 l (i : Int)).f0 = 1
    · rw [if_pos h1, if_pos hlen]
      rw [if_pos (Or.inl h1)] at ih
      exact ih
    · rw [if_neg h1]
      by_cases h2 : (rd_T33 l (i : Int)).f0 = 2
      · rw [if_pos h2, if_pos hlen]
        rw [if_pos (Or.inr h2)] at ih
        exact ih
      · rw [if_neg h2]
        rw [if_neg (fun h => h.elim h1 h2)] at ih
        exact ih
theorem refup_f (l : List S33) (hl : l.length ≤ 1000) : tattlerref17_Up.f 2000 l = some (upL l l.length) := by
  unfold tattlerref17_Up.f
  exact refup_l0 l hl l.length 0 2000 (by omega) (by omega)
/-- A fresh view of n. -/
def freshL (n : Int) : List S33 := if 64 < n then [] else List.replicate n.toNat one
theorem fresh_l0 (n : Nat) (hn : n ≤ 64) : ∀ (d i k : Nat), i + d = n → d < k → tattlerref17_Fresh.l0 k (n : Int) (List.replicate i one) (i : Int) = some (List.replicate n one)
  | 0, i, k, hd, hk => by
    obtain ⟨k, rfl⟩ : ∃ m, k = m + 1 := ⟨k - 1, by omega⟩
    simp only [tattlerref17_Fresh.l0]
    rw [if_neg (by omega), show i = n by omega]
  | d + 1, i, k, hd, hk => by
    obtain ⟨k, rfl⟩ : ∃ m, k = m + 1 := ⟨k - 1, by omega⟩
    simp only [tattlerref17_Fresh.l0]
    rw [if_pos (by omega), if_pos (by rw [List.length_replicate]; omega), wrap_next (by omega), show List.replicate i one ++ [(⟨1, 0⟩ : S33)] = List.replicate (i + 1) one from (List.replicate_succ' ).symm]
    exact fresh_l0 n hn d (i + 1) k (by omega) (by omega)
theorem fresh_f (n : Int) : tattlerref17_Fresh.f 2000 n = some (freshL n) := by
  unfold tattlerref17_Fresh.f freshL
  rw [Option.bind_some]
  by_cases h : n > 64
  · rw [if_pos h, if_pos h]
  · rw [if_neg h, if_neg h]
    by_cases h0 : 0 ≤ n
    · obtain ⟨m, rfl⟩ := Int.eq_ofNat_of_zero_le h0
      have := fresh_l0 m (by omega) m 0 2000 (by omega) (by omega)
      rw [Int.toNat_natCast]
      exact this
    · obtain ⟨k, hk⟩ : ∃ k, 2000 = k + 1 := ⟨1999, rfl⟩
      rw [hk]
      simp only [tattlerref17_Fresh.l0]
      rw [if_neg (by omega), show n.toNat = 0 by omega]
      rfl
theorem newer_f (a b : S33) : view_Newer.f a.f0 a.f1 b.f0 b.f1 = some (newer a b) := by
  unfold view_Newer.f newer
  by_cases h : a.f1 > b.f1
  · rw [if_pos h, decide_eq_true (show b.f1 < a.f1 from h)]; rfl
  · rw [if_neg h, decide_eq_false (show ¬ b.f1 < a.f1 from h)]
    by_cases h2 : a.f1 = b.f1
    · rw [if_pos h2, decide_eq_true h2]; rfl
    · rw [if_neg h2, decide_eq_false h2]; rfl
theorem refnewer_f (a b : S33) : tattlerref17_Newer.f a.f0 a.f1 b.f0 b.f1 = some (newer a b) := by
  unfold tattlerref17_Newer.f newer
  by_cases h2 : a.f1 = b.f1
  · rw [if_pos h2, decide_eq_false (show ¬ b.f1 < a.f1 by omega), decide_eq_true h2]; rfl
  · rw [if_neg h2, decide_eq_false h2, Bool.false_and, Bool.or_false]
theorem great_f (l : List S33) (m : List S36) : tattlerlaw17_great.f l m = some (decide (64 < l.length ∨ 300 < m.length)) := by
  unfold tattlerlaw17_great.f
  by_cases h : (l.length : Int) > 64
  · rw [if_pos h, decide_eq_true (Or.inl (by omega))]
  · rw [if_neg h]
    by_cases h2 : (m.length : Int) > 300
    · rw [decide_eq_true h2, decide_eq_true (Or.inr (by omega))]
    · rw [decide_eq_false h2, decide_eq_false (by omega)]
end Go.Proofs.Ythpfknigommheaa
