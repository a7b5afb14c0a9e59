/- Plainly: the program's mixing of one number, and of one beside another, is the reference's, for all numbers of 64 bits; the chapter's examples hold. No conditions. -/
import Derived.Test.YtgbdgogeofbaoaaPMixMixesx1
import Derived.Test.YtgbdgogeofbaoaaMix
namespace Go.Proofs.Ytgbdgogeofbaoaa.Pure
open Go.RowKit Go.Proofs.Ytgbdgogeofbaoaa.PMixMixes Go.Proofs.YtgbdgogeofbaoaaW.PrintWords Go.Proofs.YtgbdgogeofbaoaaW.PrintLast

theorem mixF (x : Nat) (hx : x < 2 ^ 64) : mix_Mix.f (x : Int) = some (Mx.mix x : Int) := by
  unfold mix_Mix.f
  rw [Mx.mixI x hx]
theorem mixF1 : mix_Mix.f 1 = some 6238072747940578789 := by
  have h := mixF 1 (by decide)
  rw [Mx.fixed1] at h
  exact h
theorem mixF0 : mix_Mix.f 0 = some 0 := by
  have h := mixF 0 (by decide)
  rw [Mx.fixed0] at h
  exact h
theorem twoF (x y : Nat) (hx : x < 2 ^ 64) (hy : y < 2 ^ 64) : mix_Two.f (x : Int) (y : Int) = some (Mx.two x y : Int) := by
  unfold mix_Two.f
  rw [mixF x hx]
  rw [Option.bind_some]
  rw [Mx.xorI _ _ (Mx.mix_lt _) hy, mixF _ (Mx.xor_lt (Mx.mix_lt _) hy)]
  rfl
theorem twoF0 : mix_Two.f 0 0 = some 0 := by
  have h := twoF 0 0 (by decide) (by decide)
  rw [Mx.two00] at h
  exact h
theorem fixedF : tattlerlaw01_fixed.f = some true := by
  unfold tattlerlaw01_fixed.f
  rw [mixF0, Option.bind_some, if_pos rfl, mixF1, Option.bind_some, if_pos rfl, twoF0, Option.bind_some]
  rfl

theorem half_round (x n : Nat) (hx : x < 2 ^ 64) (hn : n ≤ 64) (d : Nat) : ∀ (k i y : Nat), i + d = n → d < k → y < 2 ^ 64 →
    tattlerref01_half.l0 k (x : Int) (n : Int) (y : Int) (i : Int) = some ((x ^^^ y / 2 ^ d : Nat) : Int) := by
  induction d with
  | zero =>
    intro k i y hi hk hy
    obtain ⟨k, rfl⟩ : ∃ m, k = m + 1 := ⟨k - 1, by omega⟩
    simp only [tattlerref01_half.l0]
    rw [if_neg (by omega), Mx.xorI x y hx hy, Nat.pow_zero, Nat.div_one]
  | succ d ih =>
    intro k i y hi hk hy
    obtain ⟨k, rfl⟩ : ∃ m, k = m + 1 := ⟨k - 1, by omega⟩
    simp only [tattlerref01_half.l0]
    rw [if_pos (by omega)]
    have e1 : Int.tdiv (y : Int) 2 = ((y / 2 : Nat) : Int) := by rw [Int.tdiv_eq_ediv_of_nonneg (by omega)]; omega
    have e2 : wrap64 ((i : Int) + 1) = ((i + 1 : Nat) : Int) := by unfold wrap64; omega
    rw [e1, Mx.wrap_small _ (by omega), e2, ih k (i + 1) (y / 2) (by omega) (by omega) (by omega), Nat.div_div_eq_div_mul, Nat.pow_succ, Nat.mul_comm 2]
theorem halfF (x n : Nat) (hx : x < 2 ^ 64) (hn : n ≤ 64) (k : Nat) (hk : 64 < k) : tattlerref01_half.f k (x : Int) (n : Int) = some ((x ^^^ x / 2 ^ n : Nat) : Int) := by
  unfold tattlerref01_half.f
  exact half_round x n hx hn n k 0 x (by omega) (by omega) hx
theorem refMixF (x : Nat) (hx : x < 2 ^ 64) (k : Nat) (hk : 64 < k) : tattlerref01_Mix.f k (x : Int) = some (Mx.mix x : Int) := by
  unfold tattlerref01_Mix.f
  have h1 := halfF x 30 hx (by decide) k hk
  have e1 : IntKind.u64.wrap (((x ^^^ x / 2 ^ 30 : Nat) : Int) * 13787848793156543929) = (Mx.st1 x : Int) := Mx.wrapI _ Mx.C1
  have h2 := halfF (Mx.st1 x) 27 (Mx.st1_lt x) (by decide) k hk
  have e2 : IntKind.u64.wrap (((Mx.st1 x ^^^ Mx.st1 x / 2 ^ 27 : Nat) : Int) * 10723151780598845931) = (Mx.st2 (Mx.st1 x) : Int) := Mx.wrapI _ Mx.C2
  have h3 := halfF (Mx.st2 (Mx.st1 x)) 31 (Mx.st2_lt _) (by decide) k hk
  have c30 : ((30 : Nat) : Int) = 30 := rfl
  have c27 : ((27 : Nat) : Int) = 27 := rfl
  have c31 : ((31 : Nat) : Int) = 31 := rfl
  rw [c30] at h1
  rw [c27] at h2
  rw [c31] at h3
  rw [h1]
  rw [Option.bind_some]
  rw [e1, h2]
  rw [Option.bind_some]
  rw [e2, h3]
  rfl

theorem refTwoF (x y : Nat) (hx : x < 2 ^ 64) (hy : y < 2 ^ 64) (k : Nat) (hk : 64 < k) : tattlerref01_Two.f k (x : Int) (y : Int) = some (Mx.two x y : Int) := by
  unfold tattlerref01_Two.f
  rw [refMixF x hx k hk]
  rw [Option.bind_some]
  rw [Mx.xorI _ _ (Mx.mix_lt _) hy, refMixF _ (Mx.xor_lt (Mx.mix_lt _) hy) k hk]
  rfl

theorem eqI (x y : Nat) : ((x : Int) == (y : Int)) = decide (x = y) := by
  rw [Bool.eq_iff_iff, beq_iff_eq, decide_eq_true_iff]
  omega

theorem MixMixes : tattlerlaw01_MixMixes.Pure := by
  intro a0 a1 w0 w1
  obtain ⟨x, hx, rfl⟩ := Mx.nat_of a0 w0
  obtain ⟨y, hy, rfl⟩ := Mx.nat_of a1 w1
  refine ⟨65, ?_⟩
  unfold tattlerlaw01_MixMixes.f
  rw [fixedF]
  rw [Option.bind_some, if_pos rfl]
  rw [mixF x hx, Option.bind_some, refMixF x hx 65 (by decide), Option.bind_some, if_pos rfl]
  rw [twoF x y hx hy, Option.bind_some, refTwoF x y hx hy 65 (by decide)]
  rw [Option.bind_some]
  rw [eqI]
  simp

end Go.Proofs.Ytgbdgogeofbaoaa.Pure
