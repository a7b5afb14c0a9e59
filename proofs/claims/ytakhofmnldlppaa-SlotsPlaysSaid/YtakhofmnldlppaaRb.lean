/- The contracts of the reference's Len, At, Home, between and Keys. Conditions: at most 2048 slots, in order. -/
import Derived.Test.YtakhofmnldlppaaRa
namespace Go.Proofs.Ytakhofmnldlppaa
open Go.RowKit

theorem box_new (w : World) (u v : Value) : (w.alloc (.cells #[u, v] 43)).cell? ⟨w.heap.size, 0, none⟩ = some u ∧ (w.alloc (.cells #[u, v] 43)).cell? ⟨w.heap.size, 1, none⟩ = some v := ⟨cell_new rfl _ _ 0, cell_new rfl _ _ 1⟩
set_option maxHeartbeats 1000000 in
theorem rlen_any {w : World} {g : Nat} {L : List S} (h : RefAt w g L) (h1 : L.length ≤ 2048) (most : Int) :
    Calls Try.prog 21 #[.agg #[.slice (some ⟨g, 0, none⟩) L.length L.length, .int .i64 most]] w fun e w' => e = .returned (.int .i64 (keysP L).length) ∧ Below w.heap.size w w' := by
  obtain ⟨m, hml⟩ : ∃ m, L.length = m := ⟨_, rfl⟩
  rw [hml] at h1 ⊢
  have HM := Lib.hid hml
  obtain ⟨z0, _⟩ := box_new w (.slice (some ⟨g, 0, none⟩) m m) (.int .i64 most)
  have hba : Below w.heap.size w (w.alloc (.cells #[.slice (some ⟨g, 0, none⟩) m m, .int .i64 most] 43)) := (Below.refl _ _).alloc (Nat.le_refl _) _
  have HR := Lib.hid (h.below hba)
  have HB := Lib.hid hba
  clear h hml hba
  go_enter Try.func21, Try.ntmps21
  go_wp2_with fail
  obtain ⟨wa, hwa⟩ : ∃ wa, wa = w.alloc (.cells #[.slice (some ⟨g, 0, none⟩) m m, .int .i64 most] 43) := ⟨_, rfl⟩
  rw [← hwa] at z0 HR HB ⊢
  clear hwa
  go_loopw [3, 8] (fun x i wr => ∃ k c : Nat, k ≤ m ∧ c ≤ k ∧ i = .int .i64 k ∧ x = .int .i64 c ∧ Hid (c = (keysP (L.take k)).length) ∧ wr = wa) (fun _ i _ => m - (intOf i).toNat)
  case atStart => exact ⟨0, 0, Nat.zero_le _, Nat.le_refl _, rfl, rfl, Lib.hid rfl, rfl⟩
  case round =>
    obtain ⟨k, c, hk, hc, rfl, rfl, hcc, rfl⟩ := hrel
    by_cases hlt : k < m
    · obtain ⟨x, hx⟩ : ∃ x, L[k]? = some x := ⟨_, List.getElem?_eq_getElem (by rw [HM.out]; exact hlt)⟩
      obtain ⟨a0, a1, a2⟩ := HR.out.at hx
      have HNX := Lib.hid (keysP_next hx)
      have hk0 : (0 : Int) ≤ (k : Int) := by omega
      have hkn : (k : Int) < (m : Int) := by omega
      clear hx
      cases hu : x.used with
      | true =>
        have HU := Lib.hid hu
        rw [hu] at a0
        clear hu
        go_wp2_with fail
        go_roundw
        case rel => exact ⟨k + 1, c + 1, by omega, by omega, by go_num, by go_num, Lib.hid (by rw [HNX.out, HU.out, if_pos rfl, List.length_append, ← hcc.out]; rfl), trivial⟩
        case measure => simp [intOf]; omega
      | false =>
        have HU := Lib.hid hu
        rw [hu] at a0
        clear hu
        go_wp2_with fail
        go_roundw
        case rel => exact ⟨k + 1, c, by omega, by omega, by go_num, by go_num, Lib.hid (by rw [HNX.out, HU.out, if_neg Bool.false_ne_true]; exact hcc.out), trivial⟩
        case measure => simp [intOf]; omega
    · have hkn : ¬ (k : Int) < (m : Int) := by omega
      have HE := Lib.hid (show c = (keysP L).length from by have h := hcc.out; rw [List.take_of_length_le (by rw [HM.out]; omega)] at h; exact h)
      clear hcc
      go_wp2_with fail
      go_ret
      exact ⟨by rw [← HE.out]; rfl, HB.out⟩
def AtPost (w : World) (L : List S) (s : ByteArray) (e : Ending) (w' : World) : Prop := e = .returned (.int .i64 (slotP L s)) ∧ Below w.heap.size w w'
set_option maxHeartbeats 1000000 in
theorem rat_any {w : World} {g : Nat} {L : List S} {most n : Nat} (h : RefAt w g L) (G : Good L most n) (mv : Int) (s : ByteArray) :
    Calls Try.prog 19 #[.agg #[.slice (some ⟨g, 0, none⟩) L.length L.length, .int .i64 mv], .string s] w fun e w' => AtPost w L s e w' := by
  obtain ⟨m, hml⟩ : ∃ m, L.length = m := ⟨_, rfl⟩
  have h1 := G.two.2
  rw [hml] at h1 ⊢
  have HM := Lib.hid hml
  obtain ⟨z0, _⟩ := box_new w (.slice (some ⟨g, 0, none⟩) m m) (.int .i64 mv)
  have hba : Below w.heap.size w (w.alloc (.cells #[.slice (some ⟨g, 0, none⟩) m m, .int .i64 mv] 43)) := (Below.refl _ _).alloc (Nat.le_refl _) _
  have HR := Lib.hid (h.below hba)
  have HB := Lib.hid hba
  have HG := Lib.hid G
  clear h hml hba G
  go_enter Try.func19, Try.ntmps19
  go_wp2_with fail
  obtain ⟨wa, hwa⟩ : ∃ wa, wa = w.alloc (.cells #[.slice (some ⟨g, 0, none⟩) m m, .int .i64 mv] 43) := ⟨_, rfl⟩
  rw [← hwa] at z0 HR HB ⊢
  clear hwa
  go_loopw [9] (fun i wr => ∃ k : Nat, k ≤ m ∧ i = .int .i64 k ∧ Hid (∀ i, i < k → (ix L i).used = true → (ix L i).key ≠ s) ∧ wr = wa) (fun i _ => m - (intOf i).toNat)
  case atStart => exact ⟨0, Nat.zero_le _, rfl, Lib.hid (fun i hi => absurd hi (Nat.not_lt_zero _)), rfl⟩
  case round =>
    obtain ⟨k, hk, rfl, hno, rfl⟩ := hrel
    by_cases hlt : k < m
    · obtain ⟨x, hx⟩ : ∃ x, L[k]? = some x := ⟨_, List.getElem?_eq_getElem (by rw [HM.out]; exact hlt)⟩
      obtain ⟨a0, a1, a2⟩ := HR.out.at hx
      have HIX := Lib.hid (ix_of hx)
      have hk0 : (0 : Int) ≤ (k : Int) := by omega
      have hkn : (k : Int) < (m : Int) := by omega
      have more : (x.used = true → x.key ≠ s) → ∀ i, i < k + 1 → (ix L i).used = true → (ix L i).key ≠ s := fun hh i hi hu => by
        by_cases e : i = k
        · subst e; rw [HIX.out] at hu ⊢; exact hh hu
        · exact hno.out i (by omega) hu
      have MORE := Lib.hid more
      clear hx more
      cases hu : x.used with
      | true =>
        have HU := Lib.hid hu
        rw [hu] at a0
        clear hu
        by_cases hk2 : x.key = s
        · have hs1 : (x.key.toList == s.toList) = true := by rw [hk2]; exact str_same s
          have HE := Lib.hid (show slotP L s = (k : Int) from by
            have h := HG.out.hit (p := k) (by rw [HM.out]; exact hlt) (by rw [HIX.out]; exact HU.out)
            rw [HIX.out, hk2] at h
            unfold slotP
            rw [h, if_pos rfl])
          clear hk2
          go_wp2_with fail
          go_ret
          exact ⟨by rw [HE.out]; rfl, HB.out⟩
        · have hs1 := str_ne x.key s hk2
          have HK := Lib.hid hk2
          clear hk2
          go_wp2_with fail
          go_roundw
          case rel => exact ⟨k + 1, by omega, by go_num, Lib.hid (MORE.out (fun _ => HK.out)), trivial⟩
          case measure => simp [intOf]; omega
      | false =>
        have HU := Lib.hid hu
        rw [hu] at a0
        clear hu
        go_wp2_with fail
        go_roundw
        case rel => exact ⟨k + 1, by omega, by go_num, Lib.hid (MORE.out (fun h => by rw [HU.out] at h; cases h)), trivial⟩
        case measure => simp [intOf]; omega
    · have hkn : ¬ (k : Int) < (m : Int) := by omega
      have HE := Lib.hid (show slotP L s = -1 from by
        have hs : s ∉ keysP L := fun hs => by
          obtain ⟨q, hq, hu, hk3⟩ := mem_keysP.1 hs
          rw [HM.out] at hq
          exact hno.out q (by omega) hu hk3
        unfold slotP
        rw [(HG.out.miss hs).1, if_neg Bool.false_ne_true])
      clear hno
      go_wp2_with fail
      go_ret
      exact ⟨by rw [HE.out]; rfl, HB.out⟩
end Go.Proofs.Ytakhofmnldlppaa
