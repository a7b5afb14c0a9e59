/- What a table has under its keys, and a map that has the same: plain laws, and the laws of the map's operations. No walk. -/
import Derived.Test.YtakhofmnldlppaaU
import Derived.Maps.OwnSet
import Derived.Maps.OwnOps
namespace Go.Proofs.Ytakhofmnldlppaa
open Go.RowKit Go.Maps

theorem getP_yes {L : List S} {most n : Nat} (G : Good L most n) {x : S} (hx : x ∈ L) (hu : x.used = true) : getP L x.key = (x.v, true) := by
  obtain ⟨q, hq, rfl⟩ := mem_ix hx
  unfold getP
  rw [G.hit hq hu, if_pos rfl]
  unfold valAt
  rw [ix_get hq]
  rfl
theorem getP_no {L : List S} {most n : Nat} (G : Good L most n) {s : ByteArray} (hs : s ∉ keysP L) : getP L s = (0, false) := by
  unfold getP
  rw [(G.miss hs).1, if_neg Bool.false_ne_true]
theorem getP_is {L : List S} {most n : Nat} (G : Good L most n) (s : ByteArray) : (getP L s).2 = true ↔ s ∈ keysP L := by
  by_cases hs : s ∈ keysP L
  · obtain ⟨q, hq, hu, rfl⟩ := mem_keysP.1 hs
    rw [getP_yes G (ix_mem hq) hu]
    exact ⟨fun _ => hs, fun _ => rfl⟩
  · rw [getP_no G hs]
    exact ⟨fun h => (by cases h), fun h => absurd h hs⟩
theorem mem_set_other {L : List S} {p q : Nat} (hq : q < L.length) (hne : p ≠ q) (x : S) : ix L q ∈ L.set p x := by
  have h : (L.set p x)[q]? = some (ix L q) := by rw [List.getElem?_set_ne hne]; exact ix_get hq
  exact List.mem_of_getElem? h
theorem mem_set_self' {L : List S} {p : Nat} (hp : p < L.length) (x : S) : x ∈ L.set p x := by
  have h : (L.set p x)[p]? = some x := List.getElem?_set_self hp
  exact List.mem_of_getElem? h
theorem get_set {L : List S} {most n : Nat} (G : Good L most n) (s : ByteArray) (hz : s.size ≤ 9223372036854775807) (v : Int) (h0 : (setP L most n s v).1 = 0) (t : ByteArray) : getP (setP L most n s v).2.1 t = if t = s then (v, true) else getP L t := by
  have G' := good_set G s hz v
  by_cases hs : s ∈ keysP L
  · obtain ⟨p, hp, hu, rfl⟩ := mem_keysP.1 hs
    rw [setP_there G hp hu] at G' ⊢
    simp only at G' ⊢
    by_cases ht : t = (ix L p).key
    · rw [if_pos ht, ht]
      exact getP_yes G' (x := withV (ix L p) v) (mem_set_self' hp _) hu
    · rw [if_neg ht]
      by_cases hk : t ∈ keysP L
      · obtain ⟨q, hq, hqu, rfl⟩ := mem_keysP.1 hk
        have hne : p ≠ q := fun e => ht (by rw [e])
        rw [getP_yes G' (mem_set_other hq hne _) hqu, getP_yes G (ix_mem hq) hqu]
      · have hk' : t ∉ keysP (L.set p (withV (ix L p) v)) := by rw [keys_withV v L p _ (ix_get hp)]; exact hk
        rw [getP_no G hk, getP_no G' hk']
  · by_cases hn : n = most
    · subst hn
      rw [setP_full G hs] at h0
      exact absurd h0 (show ¬ ((6 : Int) = 0) by decide)
    · have hnew := good_new G hz hs hn v
      rw [setP_new G hs hn]
      simp only
      obtain ⟨_, hp, hpu, _⟩ := G.miss hs
      by_cases ht : t = s
      · rw [if_pos ht, ht]
        exact getP_yes hnew.1 (x := ⟨true, s, hm L s, v⟩) (mem_set_self' hp _) rfl
      · rw [if_neg ht]
        by_cases hk : t ∈ keysP L
        · obtain ⟨q, hq, hqu, rfl⟩ := mem_keysP.1 hk
          have hne : (findP L s).1 ≠ q := fun e => by rw [e, hqu] at hpu; cases hpu
          rw [getP_yes hnew.1 (mem_set_other hq hne _) hqu, getP_yes G (ix_mem hq) hqu]
        · rw [getP_no G hk, getP_no hnew.1 (fun h => (List.mem_cons.1 (hnew.2.mem_iff.1 h)).elim ht hk)]
theorem get_drop {L : List S} {most n : Nat} (G : Good L most n) (s t : ByteArray) : getP (dropP L n s).2.1 t = if t = s then (0, false) else getP L t := by
  have G' := drop_keeps G s
  by_cases hs : s ∈ keysP L
  · have hp' := drop_perm G hs
    have hnd := hp'.2.nodup_iff.1 G.nodup
    by_cases ht : t = s
    · rw [if_pos ht, ht]
      exact getP_no G' (List.nodup_cons.1 hnd).1
    · rw [if_neg ht]
      by_cases hk : t ∈ keysP L
      · obtain ⟨p, hp, hu, rfl⟩ := mem_keysP.1 hs
        obtain ⟨q, hq, hqu, rfl⟩ := mem_keysP.1 hk
        have hne : p ≠ q := fun e => ht (by rw [e])
        rw [dropP_there G hp hu] at G' ⊢
        have hmem := (good_drop G hp hu).2.mem_iff.2 (mem_set_other hq hne zeroS)
        rw [getP_yes G' hmem hqu, getP_yes G (ix_mem hq) hqu]
      · rw [getP_no G hk, getP_no G' (fun h => hk (hp'.2.mem_iff.2 (List.mem_cons_of_mem _ h)))]
  · rw [dropP_gone G hs]
    by_cases ht : t = s
    · rw [if_pos ht, ht]
      exact getP_no G hs
    · rw [if_neg ht]

theorem law9 : Keyed Try.prog 9 := string_keyed Try.underlying9
theorem zero3 (w : World) : (zeroValue 3).run Try.prog w = .ok (.int .i64 0) w := by kernel_rfl
def key (s : ByteArray) : Lit := .string s.data.toList
theorem key_inj {s t : ByteArray} (h : key s = key t) : s = t := by
  unfold key at h
  injection h with h
  cases s; cases t; simp_all
theorem key_lit (s : ByteArray) : WideAt.IsKeyLit (key s) := by simp [key, WideAt.IsKeyLit]
/-- The map D has what the table has. -/
structure Like (D : DataW Unit) (L : List S) (n : Nat) : Prop where
  tidy : Tidy D
  has : ∀ s, Maps.has D (key s) = (getP L s).2
  val : ∀ s, D.atKey (key s) (.lit (.int .i64 0)) = .lit (.int .i64 (getP L s).1)
  size : Maps.size D = n
theorem like_new {most : Nat} (h0 : 1 ≤ most) (h1 : most ≤ 1024) : Like (.map []) (blank (slotsFor most)) 0 := by
  have G := good_blank h0 h1
  have hno : ∀ s, getP (blank (slotsFor most)) s = (0, false) := fun s => getP_no G (by rw [keysP_blank]; simp)
  refine ⟨⟨[], rfl, by simp⟩, fun s => by rw [hno]; rfl, fun s => by rw [hno]; rfl, rfl⟩
theorem like_put {D : DataW Unit} {L : List S} {most n : Nat} (h : Like D L n) (G : Good L most n) (s : ByteArray) (hz : s.size ≤ 9223372036854775807) (v : Int) (h0 : (setP L most n s v).1 = 0) (ht : Tidy (D.put (key s) (.lit (.int .i64 v)))) :
    Like (D.put (key s) (.lit (.int .i64 v))) (setP L most n s v).2.1 (setP L most n s v).2.2 := by
  refine ⟨ht, fun t => ?_, fun t => ?_, ?_⟩
  · rw [get_set G s hz v h0]
    by_cases e : t = s
    · rw [if_pos e, e, has_put_same h.tidy.isMap (key_lit s)]
    · rw [if_neg e, has_put_other (fun k => e (key_inj k)), h.has]
  · rw [get_set G s hz v h0]
    by_cases e : t = s
    · rw [if_pos e, e, atKey_put_same h.tidy.isMap (key_lit s)]
    · rw [if_neg e, atKey_put_other (fun k => e (key_inj k)), h.val]
  · rw [size_put h.tidy, h.has, h.size]
    by_cases hs : s ∈ keysP L
    · rw [if_pos ((getP_is G s).2 hs)]
      obtain ⟨p, hp, hu, rfl⟩ := mem_keysP.1 hs
      rw [setP_there G hp hu]
    · rw [getP_no G hs, if_neg Bool.false_ne_true]
      by_cases hn : n = most
      · subst hn
        rw [setP_full G hs] at h0
        exact absurd h0 (show ¬ ((6 : Int) = 0) by decide)
      · rw [setP_new G hs hn]
theorem like_del {D : DataW Unit} {L : List S} {most n : Nat} (h : Like D L n) (G : Good L most n) (s : ByteArray) (ht : Tidy (D.del (key s))) : Like (D.del (key s)) (dropP L n s).2.1 (dropP L n s).2.2 := by
  refine ⟨ht, fun t => ?_, fun t => ?_, ?_⟩
  · rw [get_drop G]
    by_cases e : t = s
    · rw [if_pos e, e, has_del_same]
    · rw [if_neg e, has_del_other (fun k => e (key_inj k)), h.has]
  · rw [get_drop G]
    by_cases e : t = s
    · rw [if_pos e, e, atKey_del_same]
    · rw [if_neg e, atKey_del_other (fun k => e (key_inj k)), h.val]
  · have h1 := size_del (k := key s) h.tidy
    rw [h.has, h.size] at h1
    by_cases hs : s ∈ keysP L
    · rw [if_pos ((getP_is G s).2 hs)] at h1
      obtain ⟨p, hp, hu, rfl⟩ := mem_keysP.1 hs
      rw [dropP_there G hp hu]
      show _ = n - 1
      omega
    · rw [getP_no G hs, if_neg Bool.false_ne_true] at h1
      rw [dropP_gone G hs]
      exact h1
end Go.Proofs.Ytakhofmnldlppaa
