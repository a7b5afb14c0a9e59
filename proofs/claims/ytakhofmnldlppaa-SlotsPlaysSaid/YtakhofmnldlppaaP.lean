/- The plain law of a table: what Set and Drop keep. No walk. -/
import Derived.Test.YtakhofmnldlppaaG
import Derived.Test.YtakhofmnldlppaaH
namespace Go.Proofs.Ytakhofmnldlppaa

/-- The slot at q. -/
def ix (L : List S) (q : Nat) : S := (L[q]?).getD zeroS
theorem ix_of {L : List S} {q : Nat} {x : S} (h : L[q]? = some x) : ix L q = x := by unfold ix; rw [h]; rfl
theorem ix_get {L : List S} {q : Nat} (h : q < L.length) : L[q]? = some (ix L q) := by
  unfold ix
  rw [List.getElem?_eq_getElem h]
  rfl
theorem ix_mem {L : List S} {q : Nat} (h : q < L.length) : ix L q ∈ L := List.mem_of_getElem? (ix_get h)
theorem mem_ix {L : List S} {x : S} (h : x ∈ L) : ∃ q, q < L.length ∧ ix L q = x := by
  obtain ⟨q, hq⟩ := List.mem_iff_getElem?.1 h
  exact ⟨q, (List.getElem?_eq_some_iff.1 hq).1, ix_of hq⟩
theorem ix_set {L : List S} {i : Nat} (x : S) (h : i < L.length) (q : Nat) : ix (L.set i x) q = if i = q then x else ix L q := by
  unfold ix
  by_cases e : i = q
  · subst e
    rw [List.getElem?_set_self h, if_pos rfl]
    rfl
  · rw [List.getElem?_set_ne e, if_neg e]
theorem dst_eq {m h p : Nat} (hh : h < m) (hp : p < m) : dst m h p = if h ≤ p then p - h else p + m - h := by
  unfold dst
  by_cases e : h ≤ p
  · rw [if_pos e, show p + m - h = p - h + m by omega, Nat.add_mod_right, Nat.mod_eq_of_lt (by omega)]
  · rw [if_neg e, Nat.mod_eq_of_lt (by omega)]
theorem dst_at {m h p : Nat} (hh : h < m) (hp : p < m) : (h + dst m h p) % m = p := by
  rw [dst_eq hh hp]
  by_cases e : h ≤ p
  · rw [if_pos e, show h + (p - h) = p by omega, Nat.mod_eq_of_lt hp]
  · rw [if_neg e, show h + (p + m - h) = p + m by omega, Nat.add_mod_right, Nat.mod_eq_of_lt hp]
theorem dst_of {m h d : Nat} (hh : h < m) (hd : d < m) : dst m h ((h + d) % m) = d := by
  rw [dst_eq hh (Nat.mod_lt _ (by omega))]
  by_cases e : h + d < m
  · rw [Nat.mod_eq_of_lt e, if_pos (by omega)]
    omega
  · have e2 : (h + d) % m = h + d - m := by rw [Nat.mod_eq_sub_mod (by omega), Nat.mod_eq_of_lt (by omega)]
    rw [e2, if_neg (by omega)]
    omega
theorem dst_self {m h : Nat} (hh : h < m) : dst m h h = 0 := by rw [dst_eq hh hh, if_pos (Nat.le_refl _)]; omega
theorem dst_zero {m h p : Nat} (hh : h < m) (hp : p < m) (h0 : dst m h p = 0) : h = p := by
  have := dst_at hh hp
  rw [h0, Nat.add_zero, Nat.mod_eq_of_lt hh] at this
  exact this

theorem keysP_cons (x : S) (r : List S) : keysP (x :: r) = if x.used then x.key :: keysP r else keysP r := by
  unfold keysP
  cases hu : x.used with
  | true => simp [hu]
  | false => simp [hu]
theorem mem_keysP {L : List S} {s : ByteArray} : s ∈ keysP L ↔ ∃ q, q < L.length ∧ (ix L q).used = true ∧ (ix L q).key = s := by
  unfold keysP
  constructor
  · intro h
    obtain ⟨x, hx, rfl⟩ := List.mem_map.1 h
    obtain ⟨h1, h2⟩ := List.mem_filter.1 hx
    obtain ⟨q, hq, rfl⟩ := mem_ix h1
    exact ⟨q, hq, h2, rfl⟩
  · rintro ⟨q, hq, hu, rfl⟩
    exact List.mem_map.2 ⟨_, List.mem_filter.2 ⟨ix_mem hq, hu⟩, rfl⟩
theorem nodup_inj : ∀ (L : List S), (keysP L).Nodup → ∀ i j, i < L.length → j < L.length → (ix L i).used = true → (ix L j).used = true → (ix L i).key = (ix L j).key → i = j := by
  intro L
  induction L with
  | nil => intro _ i j hi; exact absurd hi (by simp)
  | cons x r ih =>
    intro hn i j hi hj hui huj he
    rw [keysP_cons] at hn
    have hr : (keysP r).Nodup := by
      split at hn
      · exact (List.nodup_cons.1 hn).2
      · exact hn
    have hx : x.used = true → x.key ∉ keysP r := fun hu => by
      rw [if_pos hu] at hn
      exact (List.nodup_cons.1 hn).1
    have e0 : ix (x :: r) 0 = x := rfl
    have es : ∀ k, ix (x :: r) (k + 1) = ix r k := fun k => by unfold ix; simp
    cases i with
    | zero =>
      cases j with
      | zero => rfl
      | succ j =>
        rw [e0] at hui he
        rw [es] at huj he
        exact absurd (mem_keysP.2 ⟨j, by simpa using hj, huj, he.symm⟩) (hx hui)
    | succ i =>
      cases j with
      | zero =>
        rw [e0] at huj he
        rw [es] at hui he
        exact absurd (mem_keysP.2 ⟨i, by simpa using hi, hui, he⟩) (hx huj)
      | succ j =>
        rw [es] at hui huj
        rw [es, es] at he
        rw [ih hr i j (by simpa using hi) (by simpa using hj) hui huj he]

/-- What a slot is set to goes ahead of the rest. -/
theorem set_split {α : Type} {x : α} : ∀ (L : List α) (p : Nat), L[p]? = some x → ∃ t, L.Perm (x :: t) ∧ ∀ z, (L.set p z).Perm (z :: t) := by
  intro L
  induction L with
  | nil => intro p h; simp at h
  | cons a r ih =>
    intro p h
    cases p with
    | zero => simp at h; subst h; exact ⟨r, List.Perm.refl _, fun z => List.Perm.refl _⟩
    | succ p =>
      obtain ⟨t, h1, h2⟩ := ih p (by simpa using h)
      refine ⟨a :: t, (h1.cons a).trans (List.Perm.swap _ _ _), fun z => ?_⟩
      rw [List.set_cons_succ]
      exact ((h2 z).cons a).trans (List.Perm.swap _ _ _)
/-- A slot is moved into the hole, and is the hole then. -/
theorem move_perm {α : Type} {x z : α} (M : List α) (hole i : Nat) (hi : M[i]? = some x) (hh : hole < M.length) (hne : hole ≠ i) : ((M.set hole x).set i z).Perm (M.set hole z) := by
  have h0 : (M.set hole z)[i]? = some x := by rw [List.getElem?_set_ne hne]; exact hi
  obtain ⟨t, h1, h2⟩ := set_split _ i h0
  have h3 := h2 z
  have h4 : ((M.set hole z).set i z)[hole]? = some z := by rw [List.getElem?_set_ne hne.symm, List.getElem?_set_self hh]
  obtain ⟨t', k1, k2⟩ := set_split _ hole h4
  have k3 := k2 x
  rw [List.set_comm _ _ hne.symm, List.set_set] at k3
  have e1 : (z :: t').Perm (z :: t) := k1.symm.trans h3
  have e2 : t'.Perm t := List.Perm.cons_inv e1
  exact k3.trans ((e2.cons x).trans h1.symm)

/-- All slots from a slot's home up to it are used. -/
def Paths (L : List S) : Prop := ∀ p, p < L.length → (ix L p).used = true → ∀ q, q < L.length → dst L.length (ix L p).home q < dst L.length (ix L p).home p → (ix L q).used = true
/-- While the slots behind a hole are gone through: i is the next. -/
structure Hole (M : List S) (hole i : Nat) : Prop where
  hl : hole < M.length
  il : i < M.length
  ne : hole ≠ i
  home : ∀ x ∈ M, x.home < M.length
  a : ∀ p, p < M.length → p ≠ hole → (ix M p).used = true → ∀ q, q < M.length → q ≠ hole → dst M.length (ix M p).home q < dst M.length (ix M p).home p → (ix M q).used = true
  b : ∀ p, p < M.length → p ≠ hole → (ix M p).used = true → dst M.length hole p ≤ dst M.length (ix M p).home p → dst M.length hole i ≤ dst M.length hole p
theorem Hole.done {M : List S} {hole i : Nat} (H : Hole M hole i) (hu : (ix M i).used = false) : Paths (M.set hole zeroS) := by
  intro p hp hpu q hq hd
  rw [List.length_set] at hp hq
  rw [ix_set _ H.hl] at hpu hd ⊢
  rw [List.length_set] at hd
  by_cases hph : hole = p
  · rw [if_pos hph] at hpu; cases hpu
  rw [if_neg hph] at hpu hd
  have hhome := H.home _ (ix_mem hp)
  have hpi : p ≠ i := fun e => by rw [e, hu] at hpu; cases hpu
  by_cases hqh : hole = q
  · exfalso
    subst hqh
    -- the hole lies on p's path: p stands behind i, and i on p's path
    have hle : dst M.length hole p ≤ dst M.length (ix M p).home p := by
      rw [dst_eq hhome H.hl, dst_eq hhome hp] at hd
      rw [dst_eq H.hl hp, dst_eq hhome hp]
      split at hd <;> split at hd <;> split <;> omega
    have hb := H.b p hp (fun e => hph e.symm) hpu hle
    have hi : (ix M i).used = true := by
      refine H.a p hp (fun e => hph e.symm) hpu i H.il H.ne.symm ?_
      have hne := H.ne
      rw [dst_eq H.hl H.il, dst_eq H.hl hp] at hb
      rw [dst_eq hhome H.hl, dst_eq hhome hp] at hd
      rw [dst_eq hhome H.il, dst_eq hhome hp]
      have h1 := H.hl
      have h2 := H.il
      split at hd <;> split at hd <;> split at hb <;> split at hb <;> split <;> omega
    rw [hu] at hi
    cases hi
  · rw [if_neg hqh]
    exact H.a p hp (fun e => hph e.symm) hpu q hq (fun e => hqh e.symm) hd
theorem us_lt {L : List S} {q : Nat} (h : (ix L q).used = true) : q < L.length := by
  by_cases hq : q < L.length
  · exact hq
  · unfold ix at h
    rw [List.getElem?_eq_none (by omega)] at h
    cases h
/-- The next slot is moved into the hole. -/
theorem Hole.move {M : List S} {hole i : Nat} (H : Hole M hole i) (hu : (ix M i).used = true) (hc : dst M.length hole i ≤ dst M.length (ix M i).home i) (hn : (i + 1) % M.length ≠ i) :
    Hole (M.set hole (ix M i)) i ((i + 1) % M.length) := by
  have hl := H.hl
  have il := H.il
  have hx := H.home _ (ix_mem H.il)
  have hne := H.ne
  refine ⟨by rw [List.length_set]; exact il, by rw [List.length_set]; exact Nat.mod_lt _ (by omega), hn.symm, ?_, ?_, ?_⟩
  · intro y hy
    rw [List.length_set]
    rcases List.mem_or_eq_of_mem_set hy with h | rfl
    · exact H.home y h
    · exact hx
  · intro p hp hpi hpu q hq hqi hd
    rw [List.length_set] at hp hq hd
    rw [ix_set _ hl] at hpu hd ⊢
    by_cases e : hole = p
    · subst e
      rw [if_pos rfl] at hpu hd
      by_cases e2 : hole = q
      · rw [if_pos e2]; exact hu
      · rw [if_neg e2]
        refine H.a i il (fun e => hne e.symm) hu q hq (fun e => e2 e.symm) ?_
        rw [dst_eq hl il, dst_eq hx il] at hc
        rw [dst_eq hx hq, dst_eq hx hl] at hd
        rw [dst_eq hx hq, dst_eq hx il]
        split at hd <;> split at hd <;> split at hc <;> split at hc <;> split <;> omega
    · rw [if_neg e] at hpu hd
      by_cases e2 : hole = q
      · rw [if_pos e2]; exact hu
      · rw [if_neg e2]
        exact H.a p hp (fun h => e h.symm) hpu q hq (fun h => e2 h.symm) hd
  · intro p hp hpi hpu hle
    rw [List.length_set] at hp hle ⊢
    have hpos : dst M.length i p ≠ 0 := fun h => hpi (dst_zero il hp h).symm
    have h1 : dst M.length i ((i + 1) % M.length) ≤ 1 := by
      rw [dst_eq il (Nat.mod_lt _ (by omega))]
      by_cases e : i + 1 < M.length
      · rw [Nat.mod_eq_of_lt e, if_pos (by omega)]; omega
      · rw [show i + 1 = M.length by omega, Nat.mod_self]
        split <;> omega
    omega
/-- The next slot stays. -/
theorem Hole.stay {M : List S} {hole i : Nat} (H : Hole M hole i) (hc : ¬ dst M.length hole i ≤ dst M.length (ix M i).home i) (hn : hole ≠ (i + 1) % M.length) :
    Hole M hole ((i + 1) % M.length) := by
  have hl := H.hl
  have il := H.il
  refine ⟨hl, Nat.mod_lt _ (by omega), hn, H.home, H.a, ?_⟩
  intro p hp hph hpu hle
  have hb := H.b p hp hph hpu hle
  have hpi : p ≠ i := fun e => by rw [e] at hle; exact hc hle
  have h1 : dst M.length hole ((i + 1) % M.length) ≤ dst M.length hole i + 1 := by
    rw [dst_eq hl (Nat.mod_lt _ (by omega)), dst_eq hl il]
    by_cases e : i + 1 < M.length
    · rw [Nat.mod_eq_of_lt e]; split <;> split <;> omega
    · rw [show i + 1 = M.length by omega, Nat.mod_self]
      split <;> split <;> omega
  have h2 : dst M.length hole i ≠ dst M.length hole p := by
    rw [dst_eq hl il, dst_eq hl hp]
    split <;> split <;> omega
  omega
theorem set_same {L : List S} {i : Nat} (h : i < L.length) : L.set i (ix L i) = L := by
  apply List.ext_getElem?
  intro q
  rw [List.getElem?_set]
  split
  · rename_i e
    subst e
    rw [ix_get h]
  · rfl
/-- What is left when all slots behind a hole were gone through. -/
theorem pull_law : ∀ (f : Nat) (M : List S) (hole i F : Nat), Hole M hole i → F < M.length → (ix M F).used = false → F ≠ hole → dst M.length i F < f → dst M.length i F < dst M.length hole F →
    (pull M f hole i).1.length = M.length ∧ (pull M f hole i).2 < M.length ∧ Paths ((pull M f hole i).1.set (pull M f hole i).2 zeroS) ∧ ((pull M f hole i).1.set (pull M f hole i).2 zeroS).Perm (M.set hole zeroS) := by
  intro f
  induction f with
  | zero => intro M hole i F _ _ _ _ h; omega
  | succ f ih =>
    intro M hole i F H hF hFu hFh hf hd
    have hl := H.hl
    have il := H.il
    rw [pull, ix_get il]
    simp only
    cases hu : (ix M i).used with
    | false =>
      rw [if_neg Bool.false_ne_true]
      exact ⟨rfl, hl, H.done hu, List.Perm.refl _⟩
    | true =>
      rw [if_pos rfl]
      have hiF : i ≠ F := fun e => by rw [e, hFu] at hu; cases hu
      have hnx := dst_next il hF hiF
      have hm := Nat.mod_lt (i + 1) (show M.length > 0 by omega)
      by_cases hc : dst M.length hole i ≤ dst M.length (ix M i).home i
      · rw [if_pos hc]
        have hn : (i + 1) % M.length ≠ i := fun e => by rw [e] at hnx; omega
        have h1 := ih (M.set hole (ix M i)) i ((i + 1) % M.length) F (H.move hu hc hn) (by rw [List.length_set]; exact hF) (by rw [ix_set _ hl, if_neg (fun e => hFh e.symm)]; exact hFu) (fun e => hiF e.symm)
          (by rw [List.length_set]; omega) (by rw [List.length_set]; omega)
        rw [List.length_set] at h1
        refine ⟨h1.1, h1.2.1, h1.2.2.1, h1.2.2.2.trans ?_⟩
        exact move_perm M hole i (ix_get il) hl H.ne
      · rw [if_neg hc]
        have hn : hole ≠ (i + 1) % M.length := fun e => by rw [← e] at hnx; omega
        exact ih M hole ((i + 1) % M.length) F (H.stay hc hn) hF hFu hFh (by omega) (by omega)
/-- A table in order: for so many keys, with n of them. -/
structure Good (L : List S) (most n : Nat) : Prop where
  most1 : 1 ≤ most
  most2 : most ≤ 1024
  len : L.length = slotsFor most
  cnt : (keysP L).length = n
  le : n ≤ most
  nodup : (keysP L).Nodup
  own : ∀ x ∈ L, x.used = true → x.home = txt x.key % L.length
  clean : ∀ x ∈ L, x.used = false → x = zeroS
  paths : Paths L
  fit : ∀ s ∈ keysP L, s.size ≤ 9223372036854775807
theorem Good.two {L : List S} {most n : Nat} (G : Good L most n) : 2 * most ≤ L.length ∧ L.length ≤ 2048 := by
  have h := slotsFor_range G.most1 G.most2
  have h2 : slotsFor most ≤ 2048 := by
    obtain ⟨j, hj⟩ := dbl_two most 11 1 ⟨0, rfl⟩
    unfold slotsFor at h ⊢
    rw [hj] at h ⊢
    have h1 := G.most2
    have : j ≤ 11 := by
      apply Nat.le_of_not_lt
      intro hlt
      have : 2 ^ 12 ≤ 2 ^ j := Nat.pow_le_pow_right (by decide) hlt
      omega
    exact Nat.le_trans (Nat.pow_le_pow_right (by decide) this) (by decide)
  rw [G.len]
  exact ⟨h.1, h2⟩
theorem Good.home {L : List S} {most n : Nat} (G : Good L most n) : ∀ x ∈ L, x.home < L.length := by
  have h0 : 1 ≤ L.length := by have := G.two.1; have := G.most1; omega
  intro x hx
  cases hu : x.used with
  | true => rw [G.own x hx hu]; exact Nat.mod_lt _ (by omega)
  | false => rw [G.clean x hx hu]; show 0 < L.length; omega
theorem len_used (L : List S) : (keysP L).length = (L.filter (·.used)).length := by unfold keysP; rw [List.length_map]
theorem free_of_count (L : List S) (h : (keysP L).length < L.length) : ∃ F, F < L.length ∧ (ix L F).used = false := by
  apply Classical.byContradiction
  intro hn
  have hall : ∀ x ∈ L, x.used = true := by
    intro x hx
    obtain ⟨q, hq, rfl⟩ := mem_ix hx
    cases hu : (ix L q).used with
    | true => rfl
    | false => exact absurd ⟨q, hq, hu⟩ hn
  rw [len_used, List.filter_eq_self.2 (fun x hx => hall x hx)] at h
  exact Nat.lt_irrefl _ h
theorem Good.free {L : List S} {most n : Nat} (G : Good L most n) : ∃ F, F < L.length ∧ (ix L F).used = false := by
  refine free_of_count L ?_
  have := G.two.1
  have := G.most1
  have := G.le
  have := G.cnt
  omega
theorem free_at {L : List S} {F : Nat} (hF : F < L.length) (hu : (ix L F).used = false) {h : Nat} (hh : h < L.length) : Free L h (dst L.length h F) :=
  ⟨dst_lt (by omega), ix L F, by rw [dst_at hh hF]; exact ix_get hF, hu⟩
theorem Good.freeAt {L : List S} {most n : Nat} (G : Good L most n) (s : ByteArray) : ∃ D, Free L (hm L s) D := by
  obtain ⟨F, hF, hu⟩ := G.free
  exact ⟨_, free_at hF hu (hm_lt (by omega) s)⟩
theorem Good.hit {L : List S} {most n : Nat} (G : Good L most n) {p : Nat} (hp : p < L.length) (hu : (ix L p).used = true) : findP L (ix L p).key = (p, true) := by
  obtain ⟨D, hD⟩ := G.freeAt (ix L p).key
  have h0 : 1 ≤ L.length := by omega
  have hh := hm_lt h0 (ix L p).key
  have hown : (ix L p).home = hm L (ix L p).key := G.own _ (ix_mem hp) hu
  by_cases ht : (findP L (ix L p).key).2 = true
  · obtain ⟨x, h1, h2, h3⟩ := scan_there L _ _ _ ht
    have hl := (List.getElem?_eq_some_iff.1 h1).1
    have hx := ix_of h1
    rw [← hx] at h2 h3
    have e := nodup_inj L G.nodup _ p hl hp h2 hu h3
    exact Prod.ext e ht
  · exfalso
    have hn : (findP L (ix L p).key).2 = false := by simpa using ht
    obtain ⟨c, hc, he, ⟨x, hx, hxu⟩, hall⟩ := scan_gone L (ix L p).key L.length (hm L (ix L p).key) D hh hD.1 hD.2 hn
    have hcm : c < L.length := by have := hD.1; omega
    have hd := dst_at hh hp
    have hdl := dst_lt (m := L.length) (h := hm L (ix L p).key) (i := p) h0
    rcases Nat.lt_trichotomy (dst L.length (hm L (ix L p).key) p) c with hlt | heq | hgt
    · obtain ⟨y, hy, _, hyk⟩ := hall _ hlt
      rw [hd] at hy
      exact hyk (by rw [← ix_of hy])
    · rw [← heq, hd] at hx
      rw [ix_of hx, hxu] at hu
      cases hu
    · have h1 := G.paths p hp hu ((hm L (ix L p).key + c) % L.length) (Nat.mod_lt _ (by omega)) (by rw [hown, dst_of hh hcm]; exact hgt)
      rw [ix_of hx, hxu] at h1
      cases h1
theorem Good.miss {L : List S} {most n : Nat} (G : Good L most n) {s : ByteArray} (hs : s ∉ keysP L) :
    (findP L s).2 = false ∧ (findP L s).1 < L.length ∧ (ix L (findP L s).1).used = false ∧ ∀ q, q < L.length → dst L.length (hm L s) q < dst L.length (hm L s) (findP L s).1 → (ix L q).used = true := by
  obtain ⟨D, hD⟩ := G.freeAt s
  have h0 : 1 ≤ L.length := by have := hD.1; omega
  have hh := hm_lt h0 s
  have hn : (findP L s).2 = false := by
    by_cases ht : (findP L s).2 = true
    · obtain ⟨x, h1, h2, h3⟩ := scan_there L _ _ _ ht
      exact absurd (mem_keysP.2 ⟨_, (List.getElem?_eq_some_iff.1 h1).1, by rw [ix_of h1]; exact h2, by rw [ix_of h1]; exact h3⟩) hs
    · simpa using ht
  obtain ⟨c, hc, he, ⟨x, hx, hxu⟩, hall⟩ := scan_gone L s L.length (hm L s) D hh hD.1 hD.2 hn
  have hcm : c < L.length := by have := hD.1; omega
  have he2 : (findP L s).1 = (hm L s + c) % L.length := he
  refine ⟨hn, by rw [he2]; exact Nat.mod_lt _ (by omega), by rw [he2, ix_of hx]; exact hxu, ?_⟩
  intro q hq hd
  rw [he2, dst_of hh hcm] at hd
  obtain ⟨y, hy, hyu, _⟩ := hall _ hd
  rw [dst_at hh hq] at hy
  rw [ix_of hy]
  exact hyu
theorem Good.there {L : List S} {most n : Nat} (G : Good L most n) (s : ByteArray) : (findP L s).2 = true ↔ s ∈ keysP L := by
  constructor
  · intro h
    apply Classical.byContradiction
    intro hn
    rw [(G.miss hn).1] at h
    cases h
  · intro h
    obtain ⟨q, hq, hu, rfl⟩ := mem_keysP.1 h
    rw [G.hit hq hu]
theorem ix_blank (m q : Nat) : ix (blank m) q = zeroS := by
  unfold ix blank
  by_cases h : q < m
  · rw [List.getElem?_replicate, if_pos h]; rfl
  · rw [List.getElem?_replicate, if_neg h]; rfl
theorem keysP_blank (m : Nat) : keysP (blank m) = [] := by
  unfold keysP blank
  rw [List.filter_eq_nil_iff.2 (fun x hx => by rw [(List.mem_replicate.1 hx).2]; decide)]
  rfl
theorem good_blank {most : Nat} (h0 : 1 ≤ most) (h1 : most ≤ 1024) : Good (blank (slotsFor most)) most 0 := by
  refine ⟨h0, h1, len_blank _, by rw [keysP_blank]; rfl, Nat.zero_le _, by rw [keysP_blank]; exact List.nodup_nil, ?_, ?_, ?_, by rw [keysP_blank]; simp⟩
  · intro x hx hu
    rw [(List.mem_replicate.1 hx).2] at hu
    cases hu
  · intro x hx _
    exact (List.mem_replicate.1 hx).2
  · intro p _ hu
    rw [ix_blank] at hu
    cases hu
theorem keysP_perm {L M : List S} (h : L.Perm M) : (keysP L).Perm (keysP M) := (h.filter _).map _
theorem keys_withV (v : Int) : ∀ (r : List S) (i : Nat) (x : S), r[i]? = some x → keysP (r.set i (withV x v)) = keysP r := by
  intro r
  induction r with
  | nil => intro i x h; simp at h
  | cons a r ih =>
    intro i x h
    cases i with
    | zero => simp at h; subst h; rw [List.set_cons_zero, keysP_cons, keysP_cons]; rfl
    | succ i => rw [List.set_cons_succ, keysP_cons, keysP_cons, ih i x (by simpa using h)]
/-- A number is changed. -/
theorem good_withV {L : List S} {most n : Nat} (G : Good L most n) {p : Nat} (hp : p < L.length) (hu : (ix L p).used = true) (v : Int) : Good (L.set p (withV (ix L p) v)) most n := by
  have hk := keys_withV v L p _ (ix_get hp)
  have hix : ∀ q, (ix (L.set p (withV (ix L p) v)) q).used = (ix L q).used ∧ (ix (L.set p (withV (ix L p) v)) q).home = (ix L q).home := by
    intro q
    rw [ix_set _ hp]
    split
    · rename_i e; subst e; exact ⟨rfl, rfl⟩
    · exact ⟨rfl, rfl⟩
  refine ⟨G.most1, G.most2, by rw [List.length_set]; exact G.len, by rw [hk]; exact G.cnt, G.le, by rw [hk]; exact G.nodup, ?_, ?_, ?_, by rw [hk]; exact G.fit⟩
  · intro x hx hxu
    rw [List.length_set]
    rcases List.mem_or_eq_of_mem_set hx with h | rfl
    · exact G.own x h hxu
    · exact (G.own (ix L p) (ix_mem hp) hu : (ix L p).home = _)
  · intro x hx hxu
    rcases List.mem_or_eq_of_mem_set hx with h | rfl
    · exact G.clean x h hxu
    · have h2 : (ix L p).used = false := hxu
      rw [hu] at h2
      cases h2
  · intro a ha hau q hq hd
    rw [List.length_set] at ha hq hd
    rw [(hix a).2] at hd
    rw [(hix a).1] at hau
    rw [(hix q).1]
    exact G.paths a ha hau q hq hd
/-- A key is put into an empty slot. -/
theorem keys_new {L : List S} {p : Nat} (hp : p < L.length) (hu : (ix L p).used = false) (x : S) (hx : x.used = true) : (keysP (L.set p x)).Perm (x.key :: keysP L) := by
  obtain ⟨t, h1, h2⟩ := set_split L p (ix_get hp)
  have e1 := keysP_perm h1
  rw [keysP_cons, hu, if_neg Bool.false_ne_true] at e1
  have e2 := keysP_perm (h2 x)
  rw [keysP_cons, hx, if_pos rfl] at e2
  exact e2.trans (e1.symm.cons _)
theorem good_new {L : List S} {most n : Nat} (G : Good L most n) {s : ByteArray} (hz : s.size ≤ 9223372036854775807) (hs : s ∉ keysP L) (hn : n ≠ most) (v : Int) : Good (L.set (findP L s).1 ⟨true, s, hm L s, v⟩) most (n + 1) ∧ (keysP (L.set (findP L s).1 ⟨true, s, hm L s, v⟩)).Perm (s :: keysP L) := by
  obtain ⟨_, hp, hu, hpath⟩ := G.miss hs
  obtain ⟨p, hpe⟩ : ∃ p, (findP L s).1 = p := ⟨_, rfl⟩
  rw [hpe] at hp hu hpath ⊢
  have hk := keys_new hp hu ⟨true, s, hm L s, v⟩ rfl
  have hle := G.le
  refine ⟨⟨G.most1, G.most2, by rw [List.length_set]; exact G.len, by rw [hk.length_eq, List.length_cons, G.cnt], by omega, hk.nodup_iff.2 (List.nodup_cons.2 ⟨hs, G.nodup⟩), ?_, ?_, ?_, ?_⟩, hk⟩
  · intro x hx hxu
    rw [List.length_set]
    rcases List.mem_or_eq_of_mem_set hx with h | rfl
    · exact G.own x h hxu
    · rfl
  · intro x hx hxu
    rcases List.mem_or_eq_of_mem_set hx with h | rfl
    · exact G.clean x h hxu
    · cases hxu
  · intro a ha hau q hq hd
    rw [List.length_set] at ha hq hd
    rw [ix_set _ hp] at hau hd ⊢
    by_cases e : p = q
    · rw [if_pos e]
    · rw [if_neg e]
      by_cases e2 : p = a
      · rw [if_pos e2] at hd
        subst e2
        exact hpath q hq hd
      · rw [if_neg e2] at hau hd
        exact G.paths a ha hau q hq hd
  · intro k hk2
    rcases List.mem_cons.1 (hk.mem_iff.1 hk2) with rfl | h
    · exact hz
    · exact G.fit k h
/-- A key is taken out. -/
theorem keys_gone {L : List S} {p : Nat} (hp : p < L.length) (hu : (ix L p).used = true) : (keysP L).Perm ((ix L p).key :: keysP (L.set p zeroS)) := by
  obtain ⟨t, h1, h2⟩ := set_split L p (ix_get hp)
  have e1 := keysP_perm h1
  rw [keysP_cons, hu, if_pos rfl] at e1
  have e2 := keysP_perm (h2 zeroS)
  rw [keysP_cons, show zeroS.used = false from rfl, if_neg Bool.false_ne_true] at e2
  exact e1.trans (e2.symm.cons _)
theorem good_hole {L : List S} {most n : Nat} (G : Good L most n) {p : Nat} (hp : p < L.length) : Hole L p ((p + 1) % L.length) := by
  have h2 := G.two.1
  have h1 := G.most1
  have hnl := G.le
  have hc := G.cnt
  have hne : p ≠ (p + 1) % L.length := by
    intro e
    by_cases h : p + 1 < L.length
    · rw [Nat.mod_eq_of_lt h] at e; omega
    · rw [show p + 1 = L.length by omega, Nat.mod_self] at e; omega
  refine ⟨hp, Nat.mod_lt _ (by omega), hne, G.home, fun a ha _ hau q hq _ hd => G.paths a ha hau q hq hd, ?_⟩
  intro a ha hap hau _
  have h3 : dst L.length p ((p + 1) % L.length) = 1 := by
    rw [dst_of hp (by omega)]
  rw [h3]
  have : dst L.length p a ≠ 0 := fun h => hap (dst_zero hp ha h).symm
  omega
theorem good_drop {L : List S} {most n : Nat} (G : Good L most n) {p : Nat} (hp : p < L.length) (hu : (ix L p).used = true) :
    let r := pull L L.length p ((p + 1) % L.length)
    Good (r.1.set r.2 zeroS) most (n - 1) ∧ (r.1.set r.2 zeroS).Perm (L.set p zeroS) := by
  intro r
  obtain ⟨F, hF, hFu⟩ := G.free
  have hFp : F ≠ p := fun e => by rw [e, hu] at hFu; cases hFu
  have hnx := dst_next hp hF (fun e => hFp e.symm)
  obtain ⟨r1, r2, r3, r4⟩ := pull_law L.length L p ((p + 1) % L.length) F (good_hole G hp) hF hFu hFp (dst_lt (by omega)) (by omega)
  have hk := keys_gone hp hu
  have hk2 := keysP_perm r4
  have hlen : (keysP (L.set p zeroS)).length = n - 1 := by
    have := hk.length_eq
    rw [List.length_cons, G.cnt] at this
    omega
  have hle := G.le
  refine ⟨⟨G.most1, G.most2, by rw [List.length_set, r1]; exact G.len, by rw [hk2.length_eq]; exact hlen, by omega, hk2.nodup_iff.2 (List.nodup_cons.1 (hk.nodup_iff.1 G.nodup)).2, ?_, ?_, r3, fun k h => G.fit k (hk.mem_iff.2 (List.mem_cons_of_mem _ (hk2.mem_iff.1 h)))⟩, r4⟩
  · intro x hx hxu
    rw [List.length_set, r1]
    rcases List.mem_or_eq_of_mem_set (r4.mem_iff.1 hx) with h | rfl
    · exact G.own x h hxu
    · cases hxu
  · intro x hx hxu
    rcases List.mem_or_eq_of_mem_set (r4.mem_iff.1 hx) with h | rfl
    · exact G.clean x h hxu
    · rfl
/-- An empty table is a new one. -/
theorem good_none {L : List S} {most : Nat} (G : Good L most 0) : L = blank (slotsFor most) := by
  unfold blank
  rw [← G.len]
  apply List.eq_replicate_iff.2
  refine ⟨rfl, fun x hx => ?_⟩
  refine G.clean x hx ?_
  cases hu : x.used with
  | false => rfl
  | true =>
    obtain ⟨q, hq, rfl⟩ := mem_ix hx
    have h := mem_keysP.2 ⟨q, hq, hu, rfl⟩
    rw [List.eq_nil_of_length_eq_zero G.cnt] at h
    cases h
theorem setP_there {L : List S} {most n : Nat} (G : Good L most n) {p : Nat} (hp : p < L.length) (hu : (ix L p).used = true) (v : Int) : setP L most n (ix L p).key v = (0, L.set p (withV (ix L p) v), n) := by
  unfold setP
  rw [G.hit hp hu, if_pos rfl]
  rw [modify_set _ L p _ (ix_get hp)]
theorem setP_full {L : List S} {most : Nat} (G : Good L most most) {s : ByteArray} (hs : s ∉ keysP L) (v : Int) : setP L most most s v = (6, L, most) := by
  unfold setP
  rw [(G.miss hs).1, if_neg Bool.false_ne_true, if_pos rfl]
theorem setP_new {L : List S} {most n : Nat} (G : Good L most n) {s : ByteArray} (hs : s ∉ keysP L) (hn : n ≠ most) (v : Int) : setP L most n s v = (0, L.set (findP L s).1 ⟨true, s, hm L s, v⟩, n + 1) := by
  unfold setP
  rw [(G.miss hs).1, if_neg Bool.false_ne_true, if_neg hn]
/-- Set keeps a table in order. -/
theorem good_set {L : List S} {most n : Nat} (G : Good L most n) (s : ByteArray) (hz : s.size ≤ 9223372036854775807) (v : Int) : Good (setP L most n s v).2.1 most (setP L most n s v).2.2 := by
  by_cases hs : s ∈ keysP L
  · obtain ⟨q, hq, hu, rfl⟩ := mem_keysP.1 hs
    rw [setP_there G hq hu]
    exact good_withV G hq hu v
  · by_cases hn : n = most
    · subst hn
      rw [setP_full G hs]
      exact G
    · rw [setP_new G hs hn]
      exact (good_new G hz hs hn v).1
theorem dropP_there {L : List S} {most n : Nat} (G : Good L most n) {p : Nat} (hp : p < L.length) (hu : (ix L p).used = true) :
    dropP L n (ix L p).key = (true, (pull L L.length p ((p + 1) % L.length)).1.set (pull L L.length p ((p + 1) % L.length)).2 zeroS, n - 1) := by
  unfold dropP
  rw [G.hit hp hu, if_pos rfl]
theorem dropP_gone {L : List S} {most n : Nat} (G : Good L most n) {s : ByteArray} (hs : s ∉ keysP L) : dropP L n s = (false, L, n) := by
  unfold dropP
  rw [(G.miss hs).1, if_neg Bool.false_ne_true]
/-- Drop keeps a table in order. -/
theorem drop_keeps {L : List S} {most n : Nat} (G : Good L most n) (s : ByteArray) : Good (dropP L n s).2.1 most (dropP L n s).2.2 := by
  by_cases hs : s ∈ keysP L
  · obtain ⟨q, hq, hu, rfl⟩ := mem_keysP.1 hs
    rw [dropP_there G hq hu]
    exact (good_drop G hq hu).1
  · rw [dropP_gone G hs]
    exact G
theorem found_pos {L : List S} {most n : Nat} (G : Good L most n) (s : ByteArray) (h : (findP L s).2 = true) : 1 ≤ n := by
  have := G.cnt
  have h1 := List.length_pos_of_mem ((G.there s).1 h)
  omega
end Go.Proofs.Ytakhofmnldlppaa
