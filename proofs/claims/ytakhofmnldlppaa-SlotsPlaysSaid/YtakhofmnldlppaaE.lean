/- The contracts of a table's Get, Slot and Len. Conditions: the table is nil, or one of at most 2048 slots, one of which is empty. -/
import Derived.Test.YtakhofmnldlppaaD
namespace Go.Proofs.Ytakhofmnldlppaa
open Go.RowKit

theorem scan_there (L : List S) (s : ByteArray) : ∀ f i, (scan L s f i).2 = true → ∃ x, L[(scan L s f i).1]? = some x ∧ x.used = true ∧ x.key = s := by
  intro f
  induction f with
  | zero => intro i h; cases h
  | succ f ih =>
    intro i h
    rw [scan] at h ⊢
    cases hx : L[i]? with
    | none => rw [hx] at h; cases h
    | some x =>
      rw [hx] at h
      simp only at h ⊢
      split at h
      · rename_i hu
        rw [if_pos hu]
        split at h
        · rename_i hk
          rw [if_pos hk]
          exact ⟨x, hx, hu, hk⟩
        · rename_i hk
          rw [if_neg hk]
          exact ih _ h
      · cases h
/-- A search that does not find ends at an empty slot, and all slots up to there are used by others. -/
theorem scan_gone (L : List S) (s : ByteArray) : ∀ f i d, i < L.length → d < f → (∃ x, L[(i + d) % L.length]? = some x ∧ x.used = false) → (scan L s f i).2 = false →
    ∃ c, c ≤ d ∧ (scan L s f i).1 = (i + c) % L.length ∧ (∃ x, L[(i + c) % L.length]? = some x ∧ x.used = false) ∧ ∀ k, k < c → ∃ x, L[(i + k) % L.length]? = some x ∧ x.used = true ∧ x.key ≠ s := by
  intro f
  induction f with
  | zero => intro i d _ h; omega
  | succ f ih =>
    intro i d hi hd hfree hn
    obtain ⟨x, hx⟩ : ∃ x, L[i]? = some x := ⟨_, List.getElem?_eq_getElem hi⟩
    have hmod : (i + 0) % L.length = i := by rw [Nat.add_zero, Nat.mod_eq_of_lt hi]
    rw [scan, hx] at hn
    simp only at hn
    split at hn
    · rename_i hu
      split at hn
      · cases hn
      · rename_i hk
        have hd0 : d ≠ 0 := by
          rintro rfl
          obtain ⟨y, hy, hyu⟩ := hfree
          rw [hmod, hx] at hy
          injection hy with hy
          rw [← hy, hu] at hyu
          cases hyu
        have hnx : ∀ k, ((i + 1) % L.length + k) % L.length = (i + (k + 1)) % L.length := fun k => by rw [Nat.mod_add_mod]; congr 1; omega
        obtain ⟨c, hc, he, hf, hp⟩ := ih ((i + 1) % L.length) (d - 1) (Nat.mod_lt _ (by omega)) (by omega) (by rw [hnx, show d - 1 + 1 = d by omega]; exact hfree) hn
        rw [hnx] at he hf
        refine ⟨c + 1, by omega, ?_, hf, ?_⟩
        · rw [scan, hx]
          simp only
          rw [if_pos hu, if_neg hk]
          exact he
        · intro k hk2
          cases k with
          | zero => rw [hmod]; exact ⟨x, hx, hu, hk⟩
          | succ k => have h := hp k (by omega); rw [hnx] at h; exact h
    · rename_i hu
      refine ⟨0, Nat.zero_le _, ?_, ?_, fun k hk => absurd hk (Nat.not_lt_zero _)⟩
      · rw [scan, hx]
        simp only
        rw [if_neg hu, hmod]
      · rw [hmod]
        exact ⟨x, hx, by simpa using hu⟩
theorem hm_lt {L : List S} (h : 1 ≤ L.length) (s : ByteArray) : hm L s < L.length := Nat.mod_lt _ (by omega)
theorem find_at {L : List S} {s : ByteArray} {D : Nat} (hf : Free L (hm L s) D) : ∃ x, L[(findP L s).1]? = some x ∧ ((findP L s).2 = true → x.used = true ∧ x.key = s) ∧ ((findP L s).2 = false → x.used = false) := by
  have h0 : 1 ≤ L.length := by have := hf.1; omega
  by_cases ht : (findP L s).2 = true
  · obtain ⟨x, h1, h2, h3⟩ := scan_there L s _ _ ht
    exact ⟨x, h1, fun _ => ⟨h2, h3⟩, fun h => by rw [ht] at h; cases h⟩
  · have hn : (findP L s).2 = false := by simpa using ht
    obtain ⟨c, _, he, ⟨x, hx, hu⟩, _⟩ := scan_gone L s L.length (hm L s) D (hm_lt h0 s) hf.1 hf.2 hn
    refine ⟨x, ?_, fun h => absurd h ht, fun _ => hu⟩
    rw [← he] at hx
    exact hx
def valAt (L : List S) (i : Nat) : Int := ((L[i]?).map (·.v)).getD 0
def getP (L : List S) (s : ByteArray) : Int × Bool := if (findP L s).2 then (valAt L (findP L s).1, true) else (0, false)
def slotP (L : List S) (s : ByteArray) : Int := if (findP L s).2 then ((findP L s).1 : Int) else -1
def GetPost (w : World) (L : List S) (s : ByteArray) (e : Ending) (w' : World) : Prop := e = .returned (.tuple #[.int .i64 (getP L s).1, .bool (getP L s).2]) ∧ Below w.heap.size w w'
theorem get_nil (s : ByteArray) (w : World) : Calls Try.prog 14 #[.pointer none, .string s] w fun e w' => e = .returned (.tuple #[.int .i64 0, .bool false]) ∧ w = w' := by
  go_enter Try.func14, Try.ntmps14
  go_wp2
  go_ret2
  exact ⟨rfl, rfl⟩
theorem slot_nil (s : ByteArray) (w : World) : Calls Try.prog 20 #[.pointer none, .string s] w fun e w' => e = .returned (.int .i64 (-1)) ∧ w = w' := by
  go_enter Try.func20, Try.ntmps20
  go_wp2
  go_ret
  exact ⟨rfl, rfl⟩
theorem len_nil (w : World) : Calls Try.prog 15 #[.pointer none] w fun e w' => e = .returned (.int .i64 0) ∧ w = w' := by
  go_enter Try.func15, Try.ntmps15
  go_wp2
  go_ret
  exact ⟨rfl, rfl⟩
theorem len_any {w : World} {b g : Nat} {L : List S} {most n : Nat} (h : TabAt w b g L most n) : Calls Try.prog 15 #[.pointer (some ⟨b, 0, none⟩)] w fun e w' => e = .returned (.int .i64 n) ∧ w = w' := by
  obtain ⟨-, -, c2⟩ := h.head
  clear h
  go_enter Try.func15, Try.ntmps15
  go_wp2
  go_ret
  exact ⟨rfl, rfl⟩
set_option maxHeartbeats 1000000 in
theorem get_any {w : World} {b g : Nat} {L : List S} {most n : Nat} (h : TabAt w b g L most n) (h1 : L.length ≤ 2048) (s : ByteArray) (hs : s.size ≤ 9223372036854775807) (D : Nat) (hfree : Free L (hm L s) D) :
    Calls Try.prog 14 #[.pointer (some ⟨b, 0, none⟩), .string s] w fun e w' => GetPost w L s e w' := by
  have hfind := Lib.hid (find_any h h1 s hs D hfree)
  obtain ⟨x, hx, hxt, hxf⟩ := find_at hfree
  have hil := (List.getElem?_eq_some_iff.1 hx).1
  obtain ⟨p, hp⟩ : ∃ p, findP L s = p := ⟨_, rfl⟩
  have hpost : getP L s = if p.2 then (x.v, true) else (0, false) := by unfold getP valAt; rw [hx, hp]; rfl
  rw [hp] at hx hxt hxf hil
  obtain ⟨i, there⟩ := p
  simp only at hx hxt hxf hil hpost
  have HT := Lib.hid h
  have HX := Lib.hid hx
  have HP := Lib.hid hpost
  obtain ⟨m, hml⟩ : ∃ m, L.length = m := ⟨_, rfl⟩
  rw [hml] at hil h1
  have HM := Lib.hid hml
  have HPP := Lib.hid hp
  clear h hfree hml hx hpost hp
  go_enter Try.func14, Try.ntmps14
  go_wp2_with fail
  refine (hfind.out).mono ?_
  rintro e w1 ⟨rfl, hb⟩
  have HT1 := Lib.hid (HT.out.below hb)
  have HB := Lib.hid hb
  rw [HPP.out]
  clear hb hfind
  cases there with
  | false =>
    go_wp2_with fail
    go_ret2
    exact ⟨by rw [HP.out]; rfl, HB.out⟩
  | true =>
    obtain ⟨-, -, -, a3⟩ := HT1.out.at HX.out
    obtain ⟨c0, -, -⟩ := HT1.out.head
    rw [HM.out] at c0
    have hi0 : (0 : Int) ≤ (i : Int) := by omega
    have hi1 : (i : Int) < (m : Int) := by omega
    clear hxt hxf
    go_wp2_with fail
    go_ret2
    exact ⟨by rw [HP.out]; rfl, HB.out⟩
def SlotPost (w : World) (L : List S) (s : ByteArray) (e : Ending) (w' : World) : Prop := e = .returned (.int .i64 (slotP L s)) ∧ Below w.heap.size w w'
set_option maxHeartbeats 1000000 in
theorem slot_any {w : World} {b g : Nat} {L : List S} {most n : Nat} (h : TabAt w b g L most n) (h1 : L.length ≤ 2048) (s : ByteArray) (hs : s.size ≤ 9223372036854775807) (D : Nat) (hfree : Free L (hm L s) D) :
    Calls Try.prog 20 #[.pointer (some ⟨b, 0, none⟩), .string s] w fun e w' => SlotPost w L s e w' := by
  have hfind := Lib.hid (find_any h h1 s hs D hfree)
  obtain ⟨p, hp⟩ : ∃ p, findP L s = p := ⟨_, rfl⟩
  have hpost : slotP L s = if p.2 then (p.1 : Int) else -1 := by unfold slotP; rw [hp]
  obtain ⟨i, there⟩ := p
  simp only at hpost
  have HP := Lib.hid hpost
  have HPP := Lib.hid hp
  clear h hfree hpost hp
  go_enter Try.func20, Try.ntmps20
  go_wp2_with fail
  refine (hfind.out).mono ?_
  rintro e w1 ⟨rfl, hb⟩
  have HB := Lib.hid hb
  rw [HPP.out]
  clear hb hfind
  cases there with
  | false =>
    go_wp2_with fail
    go_ret
    exact ⟨by rw [HP.out]; rfl, HB.out⟩
  | true =>
    go_wp2_with fail
    go_ret
    exact ⟨by rw [HP.out]; rfl, HB.out⟩
end Go.Proofs.Ytakhofmnldlppaa
