/- The contracts of the reference's half, Mix and Two. Conditions: numbers of 64 bits. -/
import Derived.Test.YtibgfmkgojeefaaU
namespace Go.Proofs.Ytibgfmkgojeefaa
open Go.RowKit Go.Maps Go.WideMaps Go.ChangeShapes Go.WideShapes Go.Deep

set_option maxHeartbeats 1000000 in
theorem half_any (x : Nat) (hx : x < 2 ^ 64) (k : Nat) (hk : k < 64) (r : Nat) (hr : x ^^^ x / 2 ^ k = r) (w : World) :
    Calls Try.prog 31 #[.int .u64 x, .int .i64 k] w fun e w' => e = .returned (.int .u64 r) ∧ w = w' := by
  have HX := Lib.hid hx
  have HR := Lib.hid hr
  clear hx hr
  go_enter Try.func31, Try.ntmps31
  go_wp2_with fail
  go_loop [5, 6] (fun y i => ∃ j q : Nat, j ≤ k ∧ i = .int .i64 j ∧ y = .int .u64 q ∧ q = x / 2 ^ j) (fun _ i => k - (intOf i).toNat)
  case atStart => exact ⟨0, x, Nat.zero_le _, rfl, rfl, by simp⟩
  case round =>
    obtain ⟨j, q, hj, rfl, rfl, hq⟩ := hrel
    by_cases hlt : j < k
    · have hq2 : q / 2 = x / 2 ^ (j + 1) := by rw [hq, Nat.div_div_eq_div_mul, Nat.pow_succ]
      have hkn : (j : Int) < (k : Int) := by omega
      have hql : q < 2 ^ 64 := by rw [hq]; exact Nat.lt_of_le_of_lt (Nat.div_le_self _ _) HX.out
      have hwq : IntKind.u64.wrap ((q : Int) / 2) = ((q / 2 : Nat) : Int) := by
        rw [show (q : Int) / 2 = ((q / 2 : Nat) : Int) by simp]
        exact Mx.wrap_small _ (by omega)
      have HWQ := Lib.hid hwq
      have HQ := Lib.hid hq2
      clear hq hq2 hql hwq
      go_wp2_with fail
      go_round
      case rel => exact ⟨j + 1, q / 2, by omega, by go_num, by rw [HWQ.out], HQ.out⟩
      case measure => simp [intOf]; omega
    · obtain rfl : j = k := by omega
      have hql : q < 2 ^ 64 := by rw [hq]; exact Nat.lt_of_le_of_lt (Nat.div_le_self _ _) HX.out
      have hxr := Mx.xorI x q HX.out hql
      have hrq : x ^^^ q = r := by rw [hq]; exact HR.out
      have HQ := Lib.hid hq
      have HXR := Lib.hid hxr
      have HRQ := Lib.hid hrq
      clear hq hql hxr hrq
      go_wp2_with fail
      go_ret
      refine ⟨?_, rfl⟩
      rw [HXR.out, HRQ.out]
      rfl
theorem mix29_any (x : Nat) (hx : x < 2 ^ 64) (w : World) :
    Calls Try.prog 29 #[.int .u64 x] w fun e w' => e = .returned (.int .u64 (Mx.mix x)) ∧ w = w' := by
  obtain ⟨a, ha⟩ : ∃ a, x ^^^ x / 2 ^ 30 = a := ⟨_, rfl⟩
  obtain ⟨b, hb⟩ : ∃ b, Mx.st1 x ^^^ Mx.st1 x / 2 ^ 27 = b := ⟨_, rfl⟩
  have h1 : IntKind.u64.wrap ((a : Int) * 13787848793156543929) = (Mx.st1 x : Int) := by
    rw [← ha]; exact Mx.wrapI _ Mx.C1
  have h2 : IntKind.u64.wrap ((b : Int) * 10723151780598845931) = (Mx.st2 (Mx.st1 x) : Int) := by
    rw [← hb]; exact Mx.wrapI _ Mx.C2
  have HX := Lib.hid (half_any x hx 30 (by decide) a ha)
  have H2 := Lib.hid (half_any (Mx.st1 x) (Mx.st1_lt x) 27 (by decide) b hb)
  have H3 := Lib.hid (half_any (Mx.st2 (Mx.st1 x)) (Mx.st2_lt _) 31 (by decide) (Mx.mix x) rfl)
  clear hx ha hb
  go_enter Try.func29, Try.ntmps29
  go_wp2_with fail
  refine (HX.out w).mono ?_
  rintro e w1 ⟨rfl, rfl⟩
  go_wp2_with fail
  refine (H2.out w).mono ?_
  rintro e w1 ⟨rfl, rfl⟩
  go_wp2_with fail
  refine (H3.out w).mono ?_
  rintro e w1 ⟨rfl, rfl⟩
  go_wp2_with fail
  go_ret
  exact ⟨rfl, rfl⟩
theorem two26_any (x y : Nat) (hx : x < 2 ^ 64) (hy : y < 2 ^ 64) (w : World) :
    Calls Try.prog 26 #[.int .u64 x, .int .u64 y] w fun e w' => e = .returned (.int .u64 (Mx.two x y)) ∧ w = w' := by
  go_enter Try.func26, Try.ntmps26
  go_wp2_with fail
  refine (mix29_any x hx w).mono ?_
  rintro e w1 ⟨rfl, rfl⟩
  go_wp2_with fail
  rw [Mx.xorI _ _ (Mx.mix_lt _) hy]
  refine (mix29_any _ (Mx.xor_lt (Mx.mix_lt _) hy) w).mono ?_
  rintro e w1 ⟨rfl, rfl⟩
  go_wp2_with fail
  go_ret
  exact ⟨rfl, rfl⟩
end Go.Proofs.Ytibgfmkgojeefaa
