/- The contracts of the reference's Keys and copied. Conditions: at most 2048 slots. -/
import Derived.Test.YtakhofmnldlppaaRc
namespace Go.Proofs.Ytakhofmnldlppaa
open Go.RowKit

theorem own_base {w : World} {base base' : Nat} {e : TypeId} {size : Nat} {v : Value} {n : Nat} {xs : List Value} (h : w.ownsRow base e size v n xs) (hb : base' ≤ base) : w.ownsRow base' e size v n xs := by
  refine ⟨h.1, ?_⟩
  rcases h.2 with h1 | ⟨g, cap, cur, a, b, c⟩
  · exact .inl h1
  · exact .inr ⟨g, cap, cur, a, Nat.le_trans hb b, c⟩
set_option maxHeartbeats 1000000 in
theorem rkeys_any {w : World} {g : Nat} {L : List S} (h : RefAt w g L) (h1 : L.length ≤ 2048) (mv : Int) :
    Calls Try.prog 23 #[.agg #[.slice (some ⟨g, 0, none⟩) L.length L.length, .int .i64 mv]] w fun e w' => KeysPost w (keysP L) e w' := by
  obtain ⟨i0, hi0, hz0, hz1, hz2⟩ := info_parts info9
  obtain ⟨m, hml⟩ : ∃ m, L.length = m := ⟨_, rfl⟩
  rw [hml] at h1 ⊢
  have HM := Lib.hid hml
  obtain ⟨z0', _⟩ := box_new w (.slice (some ⟨g, 0, none⟩) m m) (.int .i64 mv)
  have hba : Below w.heap.size w (w.alloc (.cells #[.slice (some ⟨g, 0, none⟩) m m, .int .i64 mv] 43)) := (Below.refl _ _).alloc (Nat.le_refl _) _
  have hbb : Below w.heap.size w ((w.alloc (.cells #[.slice (some ⟨g, 0, none⟩) m m, .int .i64 mv] 43)).alloc (.cells #[] 9)) := hba.alloc hba.size _
  have hbc : Below (w.alloc (.cells #[.slice (some ⟨g, 0, none⟩) m m, .int .i64 mv] 43)).heap.size (w.alloc (.cells #[.slice (some ⟨g, 0, none⟩) m m, .int .i64 mv] 43)) ((w.alloc (.cells #[.slice (some ⟨g, 0, none⟩) m m, .int .i64 mv] 43)).alloc (.cells #[] 9)) := (Below.refl _ _).alloc (Nat.le_refl _) _
  have z0 := cell_keep hbc z0'
  have HR := Lib.hid ((h.below hba).below hbc)
  have hgl := h.lt
  have hsz1 : (w.alloc (.cells #[.slice (some ⟨g, 0, none⟩) m m, .int .i64 mv] 43)).heap.size = w.heap.size + 1 := size_alloc _ _
  have hown0 : KeysO ((w.alloc (.cells #[.slice (some ⟨g, 0, none⟩) m m, .int .i64 mv] 43)).alloc (.cells #[] 9)) (w.heap.size + 1) (.slice (some ⟨w.heap.size + 1, 0, none⟩) 0 0) [] := by
    have h := World.ownsRow_lit (base := w.heap.size + 1) (w.alloc (.cells #[.slice (some ⟨g, 0, none⟩) m m, .int .i64 mv] 43)) (e := 9) (size := 1) #[] 0 (by rw [hsz1]; exact Nat.le_refl _) (Nat.zero_le _) rfl
    rw [hsz1] at h
    exact h
  have HO := Lib.hid hown0
  have HB := Lib.hid hbb
  clear h hml hba hbb hbc hown0 z0' hsz1
  go_enter Try.func23, Try.ntmps23
  go_wp2_with fail
  obtain ⟨wa, hwa⟩ : ∃ wa, wa = (w.alloc (.cells #[.slice (some ⟨g, 0, none⟩) m m, .int .i64 mv] 43)).alloc (.cells #[] 9) := ⟨_, rfl⟩
  have HWS : w.heap.size + 1 ≤ wa.heap.size := by rw [hwa]; simp only [size_alloc]; omega
  rw [← hwa] at z0 HR HB HO ⊢
  have Z0 := Lib.hid z0
  clear hwa z0
  have HSW := Lib.hid (show w.heap.size + 1 ≤ wa.heap.size from HWS)
  have HGL := Lib.hid hgl
  clear HWS hgl
  go_loopw [3, 9] (fun cv i wr => ∃ k : Nat, k ≤ m ∧ i = .int .i64 k ∧ Hid (KeysO wr (w.heap.size + 1) cv (keysP (L.take k))) ∧ Hid (Below (w.heap.size + 1) wa wr)) (fun _ i _ => m - (intOf i).toNat)
  case atStart => exact ⟨0, Nat.zero_le _, rfl, HO, Lib.hid (Below.refl _ _)⟩
  case round =>
    obtain ⟨k, hk, rfl, hO, hB⟩ := hrel
    have hR : RefAt wr g L := (hB.out.block g (by have := HGL.out; omega)).trans HR.out
    have z0 : wr.cell? ⟨w.heap.size, 0, none⟩ = some (.slice (some ⟨g, 0, none⟩) m m) := (World.cell?_of_block (w := wa) (hB.out.block _ (Nat.lt_succ_self _))).trans Z0.out
    by_cases hlt : k < m
    · obtain ⟨x, hx⟩ : ∃ x, L[k]? = some x := ⟨_, List.getElem?_eq_getElem (by rw [HM.out]; exact hlt)⟩
      obtain ⟨a0, a1, a2⟩ := hR.at hx
      have hle : (keysP (L.take k)).length ≤ 2048 := Nat.le_trans (keysP_le _) (by rw [List.length_take]; omega)
      have HNX := Lib.hid (keysP_next hx)
      have hk0 : (0 : Int) ≤ (k : Int) := by omega
      have hkn : (k : Int) < (m : Int) := by omega
      clear hx
      cases hu : x.used with
      | false =>
        have HU := Lib.hid hu
        rw [hu] at a0
        clear hu
        go_wp2_with fail
        go_roundw
        case rel =>
          refine ⟨k + 1, by omega, by go_num, Lib.hid ?_, hB⟩
          rw [HNX.out, HU.out]
          exact hO.out
        case measure => simp [intOf]; omega
      | true =>
        have HU := Lib.hid hu
        rw [hu] at a0
        clear hu
        go_wp2_with (first
          | (at_builtin; refine wpList_append_own _ rfl _ _ 36 rfl (w.heap.size + 1) 9 i0 (.string ⟨#[]⟩) 1 16 Try.underlying36 hi0 hz0 hz1 hz2 rfl (by decide) _ _ _ rfl (World.ownsRow.alloc hO.out _) ⟨wr.heap.size, 0, none⟩ 1 1 [.string x.key] rfl rfl ?c1 ?c2 ?c3 ?c4 ?c5 ?_)
          | fail)
        case c1 =>
          intro j u hj
          rw [add_at, Nat.zero_add, cell_new rfl]
          simpa using hj
        case c2 => intro u hu; simp at hu; subst hu; rfl
        case c3 => unfold maxLen; omega
        case c4 => omega
        case c5 => simp only [size_alloc]; have h1 := hB.out.size; have h2 := HSW.out; omega
        intro v' w2 hown1 hg1 _
        have hO2 : KeysO w2 (w.heap.size + 1) v' (keysP (L.take (k + 1))) := by
          unfold KeysO strs
          rw [HNX.out, HU.out, if_pos rfl, List.length_append, List.map_append]
          exact hown1
        have hsz : w.heap.size + 1 ≤ wr.heap.size := by have h1 := hB.out.size; have h2 := HSW.out; omega
        have hBa := hB.out.alloc hsz (.cells #[.string x.key] 9)
        have hB2 : Below (w.heap.size + 1) wa w2 := hBa.grown hg1 (by simp only [size_alloc]; omega) (fun q hq => (World.ownsRow.lt hO.out q hq).1)
        have HO2 := Lib.hid hO2
        have HB2 := Lib.hid hB2
        clear hO2 hB2 hown1 hg1 hBa hsz hO hB z0 a0 a1 a2
        go_wp2_with fail
        go_roundw
        case rel => exact ⟨k + 1, by omega, by go_num, HO2, HB2⟩
        case measure => simp [intOf]; omega
    · have hO2 := hO.out
      rw [List.take_of_length_le (by rw [HM.out]; omega)] at hO2
      have HO2 := Lib.hid hO2
      have hkn : ¬ (k : Int) < (m : Int) := by omega
      clear hO hO2
      go_wp2_with fail
      go_ret
      exact ⟨_, rfl, own_base HO2.out (Nat.le_succ _), HB.out.trans (hB.out.mono (Nat.le_succ _))⟩
end Go.Proofs.Ytakhofmnldlppaa
