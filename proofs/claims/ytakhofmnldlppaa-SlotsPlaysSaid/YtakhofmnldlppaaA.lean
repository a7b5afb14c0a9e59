/- The contracts of mixing: the program's Mix and Text. Conditions: numbers of 64 bits, a text no longer than Go's memory. -/
import Derived.Test.YtakhofmnldlppaaProg
import Derived.Test.YtakhofmnldlppaaMix
import Derived.WalkKit
import Derived.KernelRfl
import Derived.WalkSpells
import Derived.WalkLawsBesides
import Derived.Lib.Hide
import Derived.Outline
import Derived.PlainAid
import Derived.IntWalk
namespace Go.Proofs.Ytakhofmnldlppaa
open Go.RowKit

theorem ret_int {k : IntKind} {a b : Int} (h : a = b) : Ending.returned (.int k a) = .returned (.int k b) := by rw [h]
theorem mix_any (x : Nat) (hx : x < 2 ^ 64) (w : World) :
    Calls Try.prog 33 #[.int .u64 x] w fun e w' => e = .returned (.int .u64 (Mx.mix x)) ∧ w = w' := by
  have hb : (x : Int) < 18446744073709551616 := by omega
  have H := Lib.hid (Mx.mixI x hx)
  clear hx
  go_enter Try.func33, Try.ntmps33
  go_wp2
  go_ret
  exact ⟨ret_int H.out, rfl⟩
/-- The mixing of a text's first k bytes. -/
def upTo (s : ByteArray) (k : Nat) : Nat := Mx.textFrom Mx.seed (s.data.toList.take k)
theorem upTo_lt (s : ByteArray) (k : Nat) : upTo s k < 2 ^ 64 := Mx.textFrom_lt _ _ (by decide)
theorem upTo_next (s : ByteArray) (k : Nat) (h : k < s.size) : upTo s (k + 1) = Mx.mix (upTo s k ^^^ (s[k]'h).toNat) := by
  unfold upTo
  have hk : k < s.data.toList.length := by simpa using h
  rw [List.take_add_one, List.getElem?_eq_getElem hk, Option.toList_some, Mx.textFrom_append]
  simp
  rfl
theorem upTo_all (s : ByteArray) : upTo s s.size = Mx.textFrom Mx.seed s.data.toList := by
  unfold upTo
  rw [List.take_of_length_le (by simp)]
def txt (s : ByteArray) : Nat := Mx.text s.data.toList
theorem txt_eq (s : ByteArray) : txt s = Mx.mix (upTo s s.size ^^^ s.size) := by
  unfold txt Mx.text
  rw [upTo_all]
  simp
theorem txt_lt (s : ByteArray) : txt s < 2 ^ 64 := Mx.text_lt _
set_option maxHeartbeats 400000 in
theorem text_any (s : ByteArray) (hs : s.size ≤ 9223372036854775807) (w : World) :
    Calls Try.prog 31 #[.string s] w fun e w' => e = .returned (.int .u64 (txt s)) ∧ w = w' := by
  go_enter Try.func31, Try.ntmps31
  go_wp2_with fail
  go_loopw [3, 7] (fun x i wr => ∃ k : Nat, k ≤ s.size ∧ i = .int .i64 k ∧ x = .int .u64 (upTo s k) ∧ wr = w) (fun _ i _ => s.size - (intOf i).toNat)
  case atStart => exact ⟨0, Nat.zero_le _, rfl, rfl, rfl⟩
  case round =>
    obtain ⟨k, hk, rfl, rfl, rfl⟩ := hrel
    by_cases hlt : k < s.size
    · have hkz : (0 : Int) ≤ (k : Int) := by omega
      have hkn : (k : Int) < (s.size : Int) := by omega
      have hbyte : (s[k]'hlt).toNat < 2 ^ 64 := Nat.lt_of_lt_of_le (UInt8.toNat_lt _) (by decide)
      have hx : bits .xor .u64 (upTo s k : Int) (IntKind.u64.wrap ((s[k]'hlt).toNat : Int)) = ((upTo s k ^^^ (s[k]'hlt).toNat : Nat) : Int) := by
        rw [Mx.wrap_small _ hbyte, Mx.xorI _ _ (upTo_lt s k) hbyte]
      have HX := Lib.hid hx
      have HN := Lib.hid (upTo_next s k hlt)
      have HB := Lib.hid (Mx.xor_lt (upTo_lt s k) hbyte)
      clear hx hbyte
      go_wp2_with fail
      rw [HX.out]
      refine (mix_any _ HB.out wr).mono ?_
      rintro e w1 ⟨rfl, rfl⟩
      go_wp2_with fail
      go_roundw
      case rel => exact ⟨k + 1, by omega, by go_num, by rw [HN.out], trivial⟩
      case measure => simp [intOf]; omega
    · obtain rfl : k = s.size := by omega
      have hlen : s.size < 2 ^ 64 := by omega
      have hx : bits .xor .u64 (upTo s s.size : Int) (s.size : Int) = ((upTo s s.size ^^^ s.size : Nat) : Int) := by
        rw [Mx.xorI _ _ (upTo_lt s _) hlen]
      have HX := Lib.hid hx
      have HT := Lib.hid (txt_eq s)
      have HB := Lib.hid (Mx.xor_lt (upTo_lt s s.size) hlen)
      clear hx hlen
      go_wp2_with fail
      rw [HX.out]
      refine (mix_any _ HB.out wr).mono ?_
      rintro e w1 ⟨rfl, rfl⟩
      go_wp2_with fail
      go_ret
      exact ⟨by rw [HT.out]; rfl, rfl⟩
end Go.Proofs.Ytakhofmnldlppaa
