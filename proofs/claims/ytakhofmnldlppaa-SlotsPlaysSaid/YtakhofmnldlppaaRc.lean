/- The contracts of the reference's Home, between, Keys and copied. Conditions: 1 to 2048 slots. -/
import Derived.Test.YtakhofmnldlppaaRb
import Derived.Test.YtakhofmnldlppaaHb
import Derived.Laws.CopyRow
import Derived.Laws.CopyOwn
namespace Go.Proofs.Ytakhofmnldlppaa
open Go.RowKit

set_option maxHeartbeats 1000000 in
theorem rhome_any (w : World) (g : Nat) (L : List S) (h0 : 1 ≤ L.length) (h1 : L.length ≤ 2048) (mv : Int) (s : ByteArray) (hs : s.size ≤ 9223372036854775807) :
    Calls Try.prog 28 #[.agg #[.slice (some ⟨g, 0, none⟩) L.length L.length, .int .i64 mv], .string s] w fun e w' => e = .returned (.int .i64 (hm L s)) ∧ Below w.heap.size w w' := by
  obtain ⟨m, hml⟩ : ∃ m, L.length = m := ⟨_, rfl⟩
  have HMF := Lib.hid (show IntKind.i64.wrap (Int.tmod (txt s : Int) (m : Int)) = ((hm L s : Nat) : Int) from by unfold hm; rw [hml]; exact mod_fit (txt s) m (by omega) (by omega))
  rw [hml] at h0 h1 ⊢
  obtain ⟨z0, _⟩ := box_new w (.slice (some ⟨g, 0, none⟩) m m) (.int .i64 mv)
  have hba : Below w.heap.size w (w.alloc (.cells #[.slice (some ⟨g, 0, none⟩) m m, .int .i64 mv] 43)) := (Below.refl _ _).alloc (Nat.le_refl _) _
  have HB := Lib.hid hba
  have hne : (m : Int) ≠ 0 := by omega
  have hne2 : m ≠ 0 := by omega
  have hl0 : (0 : Int) ≤ (m : Int) := by omega
  have hl1 : (m : Int) < 18446744073709551616 := by omega
  have hw : IntKind.u64.wrap (m : Int) = (m : Int) := Mx.wrap_small m (by omega)
  clear hba h0 h1 hml
  go_enter Try.func28, Try.ntmps28
  go_wp2_with fail
  obtain ⟨wa, hwa⟩ : ∃ wa, wa = w.alloc (.cells #[.slice (some ⟨g, 0, none⟩) m m, .int .i64 mv] 43) := ⟨_, rfl⟩
  rw [← hwa] at z0 HB ⊢
  clear hwa
  go_region_held3 (fun w' => w'.cell? ⟨w.heap.size, 0, none⟩ = some (.slice (some ⟨g, 0, none⟩) m m)) (first | (with_reducible assumption) | (with_reducible exact drew_keep (by assumption)) | (with_reducible exact cell_keep b24 (by assumption)))
    (first | (go_at_call 24; refine (rtext_below s hs _).mono ?_; rintro e w9 ⟨rfl, b24⟩))
  go_wp2
  go_ret
  exact ⟨ret_int HMF.out, HB.out.trans ((below_undrew b24).mono HB.out.size)⟩
/-- Does x lie behind the hole, and up to i, going round? -/
def btw (m x hole i : Nat) : Bool := decide (1 ≤ dst m hole x ∧ dst m hole x ≤ dst m hole i)
theorem btw_move {m x hole i : Nat} (hx : x < m) (hh : hole < m) (hi : i < m) : (!btw m x hole i) = decide (dst m hole i ≤ dst m x i) := by
  unfold btw
  have h : (1 ≤ dst m hole x ∧ dst m hole x ≤ dst m hole i) ↔ ¬ dst m hole i ≤ dst m x i := by
    rw [dst_eq hh hx, dst_eq hh hi, dst_eq hx hi]
    split <;> split <;> split <;> omega
  by_cases k : dst m hole i ≤ dst m x i
  · rw [decide_eq_true k, decide_eq_false (fun e => h.1 e k)]; rfl
  · rw [decide_eq_false k, decide_eq_true (h.2 k)]; rfl
set_option maxHeartbeats 1000000 in
theorem rbetween_any (w : World) (g m : Nat) (h1 : m ≤ 2048) (mv : Int) (x hole i : Nat) (hx : x < m) (hh : hole < m) (hi : i < m) :
    Calls Try.prog 29 #[.agg #[.slice (some ⟨g, 0, none⟩) m m, .int .i64 mv], .int .i64 x, .int .i64 hole, .int .i64 i] w fun e w' => e = .returned (.bool (btw m x hole i)) ∧ Below w.heap.size w w' := by
  obtain ⟨z0, _⟩ := box_new w (.slice (some ⟨g, 0, none⟩) m m) (.int .i64 mv)
  have hba : Below w.heap.size w (w.alloc (.cells #[.slice (some ⟨g, 0, none⟩) m m, .int .i64 mv] 43)) := (Below.refl _ _).alloc (Nat.le_refl _) _
  have HB := Lib.hid hba
  have hne : (m : Int) ≠ 0 := by omega
  clear hba
  go_enter Try.func29, Try.ntmps29
  go_wp2_with fail
  obtain ⟨wa, hwa⟩ : ∃ wa, wa = w.alloc (.cells #[.slice (some ⟨g, 0, none⟩) m m, .int .i64 mv] 43) := ⟨_, rfl⟩
  rw [← hwa] at z0 HB ⊢
  clear hwa
  go_loopw [9] (fun v wr => ∃ (d k : Nat), k < m ∧ v = .int .i64 k ∧ Hid (k = (hole + d) % m ∧ d ≤ dst m hole i ∧ ∀ e, 1 ≤ e → e ≤ d → (hole + e) % m ≠ x) ∧ wr = wa) (fun v _ => dst m (intOf v).toNat i)
  case atStart => exact ⟨0, hole, hh, rfl, Lib.hid ⟨by rw [Nat.add_zero, Nat.mod_eq_of_lt hh], Nat.zero_le _, fun e h1 h2 => by omega⟩, rfl⟩
  case round =>
    obtain ⟨d, k, hk, rfl, hd, rfl⟩ := hrel
    have hwn := wrap_next hk h1
    have hlast := dst_lt (m := m) (h := hole) (i := i) (by omega)
    by_cases hki : k = i
    · subst hki
      have HE := Lib.hid (show btw m x hole k = false from by
        have hde : dst m hole k = d := by
          rw [hd.out.1]
          exact dst_of hh (by have := hd.out.2.1; omega)
        unfold btw
        rw [decide_eq_false]
        rintro ⟨e1, e2⟩
        rw [hde] at e2
        exact hd.out.2.2 _ e1 e2 (dst_at hh hx))
      clear hlast
      go_wp2_with fail
      go_ret
      exact ⟨by rw [HE.out]; rfl, HB.out⟩
    · have hne5 : ((k : Int) == (i : Int)) = false := beq_eq_false_iff_ne.2 (by omega)
      have hd2 : d < dst m hole i := Nat.lt_of_le_of_ne hd.out.2.1 (fun e => hki (by rw [hd.out.1, e]; exact dst_at hh hi))
      have HNX := Lib.hid (dst_next hk hi hki)
      have HNM := Lib.hid (show (k + 1) % m = (hole + (d + 1)) % m from by rw [hd.out.1]; exact (next_mod _ _ _).symm)
      by_cases hxe : (k + 1) % m = x
      · have HE := Lib.hid (show btw m x hole i = true from by
          have hde : dst m hole x = d + 1 := by rw [← hxe, HNM.out]; exact dst_of hh (by omega)
          unfold btw
          rw [hde, decide_eq_true]
          omega)
        have hxz : (((k : Int) + 1) % (m : Int) == (x : Int)) = true := by
          rw [beq_iff_eq, ← hxe]; rfl
        clear hxe hki
        go_wp2_with fail
        go_ret
        exact ⟨by rw [HE.out]; rfl, HB.out⟩
      · have hxz : (((k : Int) + 1) % (m : Int) == (x : Int)) = false := by
          rw [beq_eq_false_iff_ne]
          intro e
          refine hxe ?_
          have e2 : (((k + 1) % m : Nat) : Int) = (x : Int) := e
          omega
        have HD2 := Lib.hid hd2
        have HXE := Lib.hid hxe
        clear hxe hki hd2
        go_wp2_with fail
        go_roundw
        case rel =>
          refine ⟨d + 1, (k + 1) % m, Nat.mod_lt _ (by omega), by go_num, Lib.hid ⟨HNM.out, HD2.out, fun e h1 h2 => ?_⟩, trivial⟩
          by_cases he : e = d + 1
          · rw [he, ← HNM.out]; exact HXE.out
          · exact hd.out.2.2 e h1 (by omega)
        case measure => exact meas_drop rfl (by go_num) HNX.out
end Go.Proofs.Ytakhofmnldlppaa
