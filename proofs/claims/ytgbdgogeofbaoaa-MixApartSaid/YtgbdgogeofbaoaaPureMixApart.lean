/- Plainly: unlike numbers are mixed to unlike ones, and so are unlike ones beside one; the chapter's examples hold. No conditions. -/
import Derived.Test.YtgbdgogeofbaoaaPMixApartx1
import Derived.Test.YtgbdgogeofbaoaaMix
namespace Go.Proofs.Ytgbdgogeofbaoaa.Pure
open Go.RowKit Go.Proofs.Ytgbdgogeofbaoaa.PMixApart Go.Proofs.YtgbdgogeofbaoaaW.PrintWords Go.Proofs.YtgbdgogeofbaoaaW.PrintLast

theorem mixF (x : Nat) (hx : x < 2 ^ 64) : mix_Mix.f (x : Int) = some (Mx.mix x : Int) := by
  unfold mix_Mix.f
  rw [Mx.mixI x hx]
theorem mixF1 : mix_Mix.f 1 = some 6238072747940578789 := by
  have h := mixF 1 (by decide)
  rw [Mx.fixed1] at h
  exact h
theorem mixF0 : mix_Mix.f 0 = some 0 := by
  have h := mixF 0 (by decide)
  rw [Mx.fixed0] at h
  exact h
theorem twoF (x y : Nat) (hx : x < 2 ^ 64) (hy : y < 2 ^ 64) : mix_Two.f (x : Int) (y : Int) = some (Mx.two x y : Int) := by
  unfold mix_Two.f
  rw [mixF x hx]
  rw [Option.bind_some]
  rw [Mx.xorI _ _ (Mx.mix_lt _) hy, mixF _ (Mx.xor_lt (Mx.mix_lt _) hy)]
  rfl
theorem twoF0 : mix_Two.f 0 0 = some 0 := by
  have h := twoF 0 0 (by decide) (by decide)
  rw [Mx.two00] at h
  exact h
theorem fixedF : tattlerlaw01_fixed.f = some true := by
  unfold tattlerlaw01_fixed.f
  rw [mixF0, Option.bind_some, if_pos rfl, mixF1, Option.bind_some, if_pos rfl, twoF0, Option.bind_some]
  rfl

theorem eqI (x y : Nat) : ((x : Int) == (y : Int)) = decide (x = y) := by
  rw [Bool.eq_iff_iff, beq_iff_eq, decide_eq_true_iff]
  omega

theorem MixApart : tattlerlaw01_MixApart.Pure := by
  intro a0 a1 a2 w0 w1 w2
  obtain ⟨x, hx, rfl⟩ := Mx.nat_of a0 w0
  obtain ⟨y, hy, rfl⟩ := Mx.nat_of a1 w1
  obtain ⟨z, hz, rfl⟩ := Mx.nat_of a2 w2
  unfold tattlerlaw01_MixApart.f
  rw [fixedF]
  rw [Option.bind_some, if_pos rfl]
  rw [mixF x hx, Option.bind_some, mixF y hy]
  rw [Option.bind_some]
  have e1 : decide (Mx.mix x = Mx.mix y) = decide (x = y) := decide_eq_decide.2 ⟨Mx.mix_inj hx hy, fun h => by rw [h]⟩
  have e2 : decide (Mx.two z x = Mx.two z y) = decide (x = y) := decide_eq_decide.2 ⟨Mx.two_inj hx hy, fun h => by rw [h]⟩
  rw [twoF z x hz hx, Option.bind_some, twoF z y hz hy]
  rw [Option.bind_some]
  rw [eqI, eqI, eqI, e1, e2]
  simp

end Go.Proofs.Ytgbdgogeofbaoaa.Pure
