/- The contracts of the reference's half, Mix and Text. Conditions: numbers of 64 bits, a text no longer than Go's memory. -/
import Derived.Test.YtakhofmnldlppaaA
namespace Go.Proofs.Ytakhofmnldlppaa
open Go.RowKit

theorem div_more (x i : Nat) : x / 2 ^ i / 2 = x / 2 ^ (i + 1) := by rw [Nat.div_div_eq_div_mul, Nat.pow_succ]
theorem div_small {x : Nat} (hx : x < 2 ^ 64) (i : Nat) : x / 2 ^ i < 2 ^ 64 := Nat.lt_of_le_of_lt (Nat.div_le_self _ _) hx
theorem half_eq {z : Nat} (hz : z < 2 ^ 64) : Value.int .u64 (IntKind.u64.wrap ((z : Int) / 2)) = .int .u64 ((z / 2 : Nat) : Int) := by
  rw [IntKind.wrap_u64, show ((z / 2 : Nat) : Int) = (z : Int) / 2 by omega, Int.emod_eq_of_lt (by omega) (by omega)]
set_option maxHeartbeats 400000 in
theorem half_any (x k : Nat) (hx : x < 2 ^ 64) (hk : k ≤ 64) (w : World) :
    Calls Try.prog 32 #[.int .u64 x, .int .i64 k] w fun e w' => e = .returned (.int .u64 (x ^^^ x / 2 ^ k : Nat)) ∧ w = w' := by
  have HX := Lib.hid hx
  clear hx
  go_enter Try.func32, Try.ntmps32
  go_wp2_with fail
  go_loopw [5, 6] (fun y i wr => ∃ j : Nat, j ≤ k ∧ i = .int .i64 j ∧ (∃ z : Nat, y = .int .u64 z ∧ Hid (z = x / 2 ^ j)) ∧ wr = w) (fun _ i _ => k - (intOf i).toNat)
  case atStart => exact ⟨0, Nat.zero_le _, rfl, ⟨x, rfl, Lib.hid (by simp)⟩, rfl⟩
  case round =>
    obtain ⟨j, hj, rfl, ⟨z, rfl, hz⟩, rfl⟩ := hrel
    by_cases hlt : j < k
    · have hkz : (0 : Int) ≤ (j : Int) := by omega
      have hkn : (j : Int) < (k : Int) := by omega
      have HZ := Lib.hid (show z < 2 ^ 64 by rw [hz.out]; exact div_small HX.out _)
      go_wp2_with fail
      go_roundw
      case rel => exact ⟨j + 1, by omega, by go_num, ⟨z / 2, half_eq HZ.out, Lib.hid (by rw [hz.out, div_more])⟩, trivial⟩
      case measure => simp [intOf]; omega
    · obtain rfl : j = k := by omega
      have hx2 : bits .xor .u64 (x : Int) (z : Int) = ((x ^^^ x / 2 ^ j : Nat) : Int) := by
        rw [hz.out, Mx.xorI _ _ HX.out (div_small HX.out _)]
      have HX2 := Lib.hid hx2
      clear hx2
      go_wp2_with fail
      go_ret
      exact ⟨ret_int HX2.out, rfl⟩
theorem rmix_any (x : Nat) (hx : x < 2 ^ 64) (w : World) :
    Calls Try.prog 30 #[.int .u64 x] w fun e w' => e = .returned (.int .u64 (Mx.mix x)) ∧ w = w' := by
  have H1 := Lib.hid (Mx.wrapI (x ^^^ x / 2 ^ 30) Mx.C1)
  have H2 := Lib.hid (Mx.wrapI (Mx.st1 x ^^^ Mx.st1 x / 2 ^ 27) Mx.C2)
  have HX := Lib.hid hx
  clear hx
  go_enter Try.func30, Try.ntmps30
  go_wp2_with fail
  refine (half_any x 30 HX.out (by decide) w).mono ?_
  rintro e w1 ⟨rfl, rfl⟩
  go_wp2_with fail
  rw [show (13787848793156543929 : Int) = ((Mx.C1 : Nat) : Int) from rfl, H1.out]
  refine (half_any (Mx.st1 x) 27 (Mx.st1_lt x) (by decide) w).mono ?_
  rintro e w1 ⟨rfl, rfl⟩
  go_wp2_with fail
  rw [show (10723151780598845931 : Int) = ((Mx.C2 : Nat) : Int) from rfl, H2.out]
  refine (half_any (Mx.st2 (Mx.st1 x)) 31 (Mx.st2_lt _) (by decide) w).mono ?_
  rintro e w1 ⟨rfl, rfl⟩
  go_wp2_with fail
  go_ret
  exact ⟨rfl, rfl⟩
set_option maxHeartbeats 400000 in
theorem rtext_any (s : ByteArray) (hs : s.size ≤ 9223372036854775807) (w : World) :
    Calls Try.prog 24 #[.string s] w fun e w' => e = .returned (.int .u64 (txt s)) ∧ w = w' := by
  go_enter Try.func24, Try.ntmps24
  go_wp2_with fail
  go_loopw [3, 4] (fun x i wr => ∃ k : Nat, k ≤ s.size ∧ i = .int .i64 k ∧ x = .int .u64 (upTo s k) ∧ wr = w) (fun _ i _ => s.size - (intOf i).toNat)
  case atStart => exact ⟨0, Nat.zero_le _, rfl, rfl, rfl⟩
  case round =>
    obtain ⟨k, hk, rfl, rfl, rfl⟩ := hrel
    by_cases hlt : k < s.size
    · have hkz : (0 : Int) ≤ (k : Int) := by omega
      have hkn : (k : Int) < (s.size : Int) := by omega
      have hbyte : (s[k]'hlt).toNat < 2 ^ 64 := Nat.lt_of_lt_of_le (UInt8.toNat_lt _) (by decide)
      have hx : bits .xor .u64 (upTo s k : Int) (IntKind.u64.wrap ((s[k]'hlt).toNat : Int)) = ((upTo s k ^^^ (s[k]'hlt).toNat : Nat) : Int) := by
        rw [Mx.wrap_small _ hbyte, Mx.xorI _ _ (upTo_lt s k) hbyte]
      have HX := Lib.hid hx
      have HN := Lib.hid (upTo_next s k hlt)
      have HB := Lib.hid (Mx.xor_lt (upTo_lt s k) hbyte)
      clear hx hbyte
      go_wp2_with fail
      rw [HX.out]
      refine (rmix_any _ HB.out wr).mono ?_
      rintro e w1 ⟨rfl, rfl⟩
      go_wp2_with fail
      go_roundw
      case rel => exact ⟨k + 1, by omega, by go_num, by rw [HN.out], trivial⟩
      case measure => simp [intOf]; omega
    · obtain rfl : k = s.size := by omega
      have hlen : s.size < 2 ^ 64 := by omega
      have hx : bits .xor .u64 (upTo s s.size : Int) (s.size : Int) = ((upTo s s.size ^^^ s.size : Nat) : Int) := by
        rw [Mx.xorI _ _ (upTo_lt s _) hlen]
      have HX := Lib.hid hx
      have HT := Lib.hid (txt_eq s)
      have HB := Lib.hid (Mx.xor_lt (upTo_lt s s.size) hlen)
      clear hx hlen
      go_wp2_with fail
      rw [HX.out]
      refine (rmix_any _ HB.out wr).mono ?_
      rintro e w1 ⟨rfl, rfl⟩
      go_wp2_with fail
      go_ret
      exact ⟨by rw [HT.out]; rfl, rfl⟩
end Go.Proofs.Ytakhofmnldlppaa
