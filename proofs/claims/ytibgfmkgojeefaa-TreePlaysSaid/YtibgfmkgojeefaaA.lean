/- The contracts of mixing: the program's Mix and Two, the reference's half, Mix and Two. Conditions: numbers of 64 bits. -/
import Derived.Test.YtibgfmkgojeefaaProg
import Derived.Test.YtibgfmkgojeefaaMix
import Derived.WalkKit
import Derived.KernelRfl
import Derived.WalkSpells
import Derived.WalkLawsBesides
import Derived.Lib.Hide
import Derived.Outline
namespace Go.Proofs.Ytibgfmkgojeefaa
open Go.RowKit

theorem ret_int {k : IntKind} {a b : Int} (h : a = b) : Ending.returned (.int k a) = .returned (.int k b) := by rw [h]
theorem mix_any (x : Nat) (hx : x < 2 ^ 64) (w : World) :
    Calls Try.prog 30 #[.int .u64 x] w fun e w' => e = .returned (.int .u64 (Mx.mix x)) ∧ w = w' := by
  have hb : (x : Int) < 18446744073709551616 := by omega
  have H := Lib.hid (Mx.mixI x hx)
  clear hx
  go_enter Try.func30, Try.ntmps30
  go_wp2
  go_ret
  exact ⟨ret_int H.out, rfl⟩
theorem two_any (x y : Nat) (hx : x < 2 ^ 64) (hy : y < 2 ^ 64) (w : World) :
    Calls Try.prog 28 #[.int .u64 x, .int .u64 y] w fun e w' => e = .returned (.int .u64 (Mx.two x y)) ∧ w = w' := by
  go_enter Try.func28, Try.ntmps28
  go_wp2_with fail
  refine (mix_any x hx w).mono ?_
  rintro e w1 ⟨rfl, rfl⟩
  go_wp2_with fail
  rw [Mx.xorI _ _ (Mx.mix_lt _) hy]
  refine (mix_any _ (Mx.xor_lt (Mx.mix_lt _) hy) w).mono ?_
  rintro e w1 ⟨rfl, rfl⟩
  go_wp2_with fail
  go_ret
  exact ⟨rfl, rfl⟩
end Go.Proofs.Ytibgfmkgojeefaa
