/- The contracts of a tree's Node and Root. Conditions: the tree is nil or one of ours. -/
import Derived.Test.YtibgfmkgojeefaaD
namespace Go.Proofs.Ytibgfmkgojeefaa
open Go.RowKit

def nodeVal (lv : Nat → Nat) (level i : Int) : Nat := if 0 ≤ level ∧ level ≤ 6 ∧ 0 ≤ i ∧ i < 2 ^ level.toNat then nd lv (2 ^ level.toNat + i.toNat) else 0
theorem nodeVal_no {lv : Nat → Nat} {level i : Int} (h : ¬ (0 ≤ level ∧ level ≤ 6 ∧ 0 ≤ i ∧ i < 2 ^ level.toNat)) : nodeVal lv level i = 0 := by unfold nodeVal; rw [if_neg h]
theorem nodeVal_yes {lv : Nat → Nat} {level i : Int} (h : 0 ≤ level ∧ level ≤ 6 ∧ 0 ≤ i ∧ i < 2 ^ level.toNat) : nodeVal lv level i = nd lv (2 ^ level.toNat + i.toNat) := by unfold nodeVal; rw [if_pos h]
def NodePost (w : World) (x : Nat) (e : Ending) (w' : World) : Prop := e = .returned (.int .u64 x) ∧ ∃ n, w' = w.drewN n

theorem node_nil (level i : Int) (w : World) : Calls Try.prog 19 #[.pointer none, .int .i64 level, .int .i64 i] w fun e w' => NodePost w 0 e w' := by
  go_enter Try.func19, Try.ntmps19
  go_wp2
  go_ret
  exact ⟨rfl, 0, rfl⟩

set_option maxRecDepth 100000 in
set_option maxHeartbeats 1000000 in
theorem node_at {w : World} {b : Nat} {lv : Nat → Nat} (h : Tr w b lv) (l : Nat) (hl : l ≤ 6) (i : Int) (h0 : 0 ≤ i) (h1 : i < 2 ^ l) :
    Calls Try.prog 19 #[.pointer (some ⟨b, 0, none⟩), .int .i64 l, .int .i64 i] w fun e w' => NodePost w (nd lv (2 ^ l + i.toNat)) e w' := by
  obtain ⟨i, rfl⟩ := Int.eq_ofNat_of_zero_le h0
  have hp : 2 ^ l ≤ 64 := by
    calc 2 ^ l ≤ 2 ^ 6 := Nat.pow_le_pow_right (by decide) hl
      _ = 64 := rfl
  have hp1 : 1 ≤ 2 ^ l := Nat.one_le_two_pow
  have h1' : i < 2 ^ l := by exact_mod_cast h1
  have hc := (h.node (k := 2 ^ l + i) (by omega) (by omega)).1
  rw [Int.toNat_natCast]
  clear h h0 h1
  obtain rfl | rfl | rfl | rfl | rfl | rfl | rfl : l = 0 ∨ l = 1 ∨ l = 2 ∨ l = 3 ∨ l = 4 ∨ l = 5 ∨ l = 6 := by omega
  · have e1 : (0 : Int) ≤ 1 + (i : Int) := by omega
    have e2 : 1 + (i : Int) < 128 := by omega
    have e3 : (1 + (i : Int)).toNat = 1 + i := by omega
    have e4 : (i : Int) < 1 := by omega
    have hc' : w.cell? ⟨b, 1 + i, none⟩ = some (.int .u64 (nd lv (2 ^ 0 + i))) := hc
    clear hc
    go_enter Try.func19, Try.ntmps19
    go_wp2_with fail
    go_quiet (fail)
    go_wp2
    go_ret
    exact ⟨rfl, _, rfl⟩
  · have e1 : (0 : Int) ≤ 2 + (i : Int) := by omega
    have e2 : 2 + (i : Int) < 128 := by omega
    have e3 : (2 + (i : Int)).toNat = 2 + i := by omega
    have e4 : (i : Int) < 2 := by omega
    have hc' : w.cell? ⟨b, 2 + i, none⟩ = some (.int .u64 (nd lv (2 ^ 1 + i))) := hc
    clear hc
    go_enter Try.func19, Try.ntmps19
    go_wp2_with fail
    go_quiet (fail)
    go_wp2
    go_ret
    exact ⟨rfl, _, rfl⟩
  · have e1 : (0 : Int) ≤ 4 + (i : Int) := by omega
    have e2 : 4 + (i : Int) < 128 := by omega
    have e3 : (4 + (i : Int)).toNat = 4 + i := by omega
    have e4 : (i : Int) < 4 := by omega
    have hc' : w.cell? ⟨b, 4 + i, none⟩ = some (.int .u64 (nd lv (2 ^ 2 + i))) := hc
    clear hc
    go_enter Try.func19, Try.ntmps19
    go_wp2_with fail
    go_quiet (fail)
    go_wp2
    go_ret
    exact ⟨rfl, _, rfl⟩
  · have e1 : (0 : Int) ≤ 8 + (i : Int) := by omega
    have e2 : 8 + (i : Int) < 128 := by omega
    have e3 : (8 + (i : Int)).toNat = 8 + i := by omega
    have e4 : (i : Int) < 8 := by omega
    have hc' : w.cell? ⟨b, 8 + i, none⟩ = some (.int .u64 (nd lv (2 ^ 3 + i))) := hc
    clear hc
    go_enter Try.func19, Try.ntmps19
    go_wp2_with fail
    go_quiet (fail)
    go_wp2
    go_ret
    exact ⟨rfl, _, rfl⟩
  · have e1 : (0 : Int) ≤ 16 + (i : Int) := by omega
    have e2 : 16 + (i : Int) < 128 := by omega
    have e3 : (16 + (i : Int)).toNat = 16 + i := by omega
    have e4 : (i : Int) < 16 := by omega
    have hc' : w.cell? ⟨b, 16 + i, none⟩ = some (.int .u64 (nd lv (2 ^ 4 + i))) := hc
    clear hc
    go_enter Try.func19, Try.ntmps19
    go_wp2_with fail
    go_quiet (fail)
    go_wp2
    go_ret
    exact ⟨rfl, _, rfl⟩
  · have e1 : (0 : Int) ≤ 32 + (i : Int) := by omega
    have e2 : 32 + (i : Int) < 128 := by omega
    have e3 : (32 + (i : Int)).toNat = 32 + i := by omega
    have e4 : (i : Int) < 32 := by omega
    have hc' : w.cell? ⟨b, 32 + i, none⟩ = some (.int .u64 (nd lv (2 ^ 5 + i))) := hc
    clear hc
    go_enter Try.func19, Try.ntmps19
    go_wp2_with fail
    go_quiet (fail)
    go_wp2
    go_ret
    exact ⟨rfl, _, rfl⟩
  · have e1 : (0 : Int) ≤ 64 + (i : Int) := by omega
    have e2 : 64 + (i : Int) < 128 := by omega
    have e3 : (64 + (i : Int)).toNat = 64 + i := by omega
    have e4 : (i : Int) < 64 := by omega
    have hc' : w.cell? ⟨b, 64 + i, none⟩ = some (.int .u64 (nd lv (2 ^ 6 + i))) := hc
    clear hc
    go_enter Try.func19, Try.ntmps19
    go_wp2_with fail
    go_quiet (fail)
    go_wp2
    go_ret
    exact ⟨rfl, _, rfl⟩

theorem node_out {w : World} (b : Nat) (level i : Int) (h : ¬ (0 ≤ level ∧ level ≤ 6 ∧ 0 ≤ i ∧ i < 2 ^ level.toNat)) :
    Calls Try.prog 19 #[.pointer (some ⟨b, 0, none⟩), .int .i64 level, .int .i64 i] w fun e w' => NodePost w 0 e w' := by
  by_cases h0 : level < 0
  · clear h
    go_enter Try.func19, Try.ntmps19
    go_wp2
    go_ret
    exact ⟨rfl, 0, rfl⟩
  by_cases h1 : 6 < level
  · clear h
    go_enter Try.func19, Try.ntmps19
    go_wp2
    go_ret
    exact ⟨rfl, 0, rfl⟩
  by_cases h2 : i < 0
  · clear h
    go_enter Try.func19, Try.ntmps19
    go_wp2
    go_ret
    exact ⟨rfl, 0, rfl⟩
  obtain ⟨l, rfl⟩ := Int.eq_ofNat_of_zero_le (show 0 ≤ level by omega)
  have h3 : (2 : Int) ^ l ≤ i := by
    rw [Int.toNat_natCast] at h
    exact Int.not_lt.1 (fun hh => h ⟨by omega, by omega, by omega, hh⟩)
  clear h
  obtain rfl | rfl | rfl | rfl | rfl | rfl | rfl : l = 0 ∨ l = 1 ∨ l = 2 ∨ l = 3 ∨ l = 4 ∨ l = 5 ∨ l = 6 := by omega
  · have e4 : ¬ i < 1 := by have h4 : (1 : Int) ≤ i := h3; omega
    clear h3
    go_enter Try.func19, Try.ntmps19
    go_wp2
    go_ret
    exact ⟨rfl, 0, rfl⟩
  · have e4 : ¬ i < 2 := by have h4 : (2 : Int) ≤ i := h3; omega
    clear h3
    go_enter Try.func19, Try.ntmps19
    go_wp2
    go_ret
    exact ⟨rfl, 0, rfl⟩
  · have e4 : ¬ i < 4 := by have h4 : (4 : Int) ≤ i := h3; omega
    clear h3
    go_enter Try.func19, Try.ntmps19
    go_wp2
    go_ret
    exact ⟨rfl, 0, rfl⟩
  · have e4 : ¬ i < 8 := by have h4 : (8 : Int) ≤ i := h3; omega
    clear h3
    go_enter Try.func19, Try.ntmps19
    go_wp2
    go_ret
    exact ⟨rfl, 0, rfl⟩
  · have e4 : ¬ i < 16 := by have h4 : (16 : Int) ≤ i := h3; omega
    clear h3
    go_enter Try.func19, Try.ntmps19
    go_wp2
    go_ret
    exact ⟨rfl, 0, rfl⟩
  · have e4 : ¬ i < 32 := by have h4 : (32 : Int) ≤ i := h3; omega
    clear h3
    go_enter Try.func19, Try.ntmps19
    go_wp2
    go_ret
    exact ⟨rfl, 0, rfl⟩
  · have e4 : ¬ i < 64 := by have h4 : (64 : Int) ≤ i := h3; omega
    clear h3
    go_enter Try.func19, Try.ntmps19
    go_wp2
    go_ret
    exact ⟨rfl, 0, rfl⟩
/-- What a tree's Node answers, in or out of range. -/
theorem node_any {w : World} {b : Nat} {lv : Nat → Nat} (h : Tr w b lv) (level i : Int) :
    Calls Try.prog 19 #[.pointer (some ⟨b, 0, none⟩), .int .i64 level, .int .i64 i] w fun e w' => NodePost w (nodeVal lv level i) e w' := by
  by_cases hr : 0 ≤ level ∧ level ≤ 6 ∧ 0 ≤ i ∧ i < 2 ^ level.toNat
  · rw [nodeVal_yes hr]
    obtain ⟨l, rfl⟩ := Int.eq_ofNat_of_zero_le hr.1
    have h := node_at h l (by omega) i hr.2.2.1 hr.2.2.2
    rw [Int.toNat_natCast]
    exact h
  · rw [nodeVal_no hr]
    exact node_out b level i hr
theorem root_nil (w : World) : Calls Try.prog 13 #[.pointer none] w fun e w' => NodePost w 0 e w' := by
  go_enter Try.func13, Try.ntmps13
  go_wp2_with fail
  refine (node_nil 0 0 w).mono ?_
  rintro e w' ⟨rfl, n, rfl⟩
  go_wp2
  go_ret
  exact ⟨rfl, _, rfl⟩
theorem root_any {w : World} {b : Nat} {lv : Nat → Nat} (h : Tr w b lv) :
    Calls Try.prog 13 #[.pointer (some ⟨b, 0, none⟩)] w fun e w' => NodePost w (nd lv 1) e w' := by
  have hn := node_at h 0 (by omega) 0 (by omega) (by decide)
  have H := Lib.hid hn
  clear h hn
  go_enter Try.func13, Try.ntmps13
  go_wp2_with fail
  refine (H.out).mono ?_
  rintro e w' ⟨rfl, n, rfl⟩
  go_wp2
  go_ret
  exact ⟨rfl, _, rfl⟩
end Go.Proofs.Ytibgfmkgojeefaa
