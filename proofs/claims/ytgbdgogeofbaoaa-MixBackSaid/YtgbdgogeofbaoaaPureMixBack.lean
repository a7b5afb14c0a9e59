/- Plainly: the reference's way back undoes the program's mixing, and the other way round; the chapter's examples hold. No conditions. -/
import Derived.Test.YtgbdgogeofbaoaaPMixBackx1
import Derived.Test.YtgbdgogeofbaoaaMix
namespace Go.Proofs.Ytgbdgogeofbaoaa.Pure
open Go.RowKit Go.Proofs.Ytgbdgogeofbaoaa.PMixBack Go.Proofs.YtgbdgogeofbaoaaW.PrintWords Go.Proofs.YtgbdgogeofbaoaaW.PrintLast

theorem mixF (x : Nat) (hx : x < 2 ^ 64) : mix_Mix.f (x : Int) = some (Mx.mix x : Int) := by
  unfold mix_Mix.f
  rw [Mx.mixI x hx]
theorem mixF1 : mix_Mix.f 1 = some 6238072747940578789 := by
  have h := mixF 1 (by decide)
  rw [Mx.fixed1] at h
  exact h
theorem mixF0 : mix_Mix.f 0 = some 0 := by
  have h := mixF 0 (by decide)
  rw [Mx.fixed0] at h
  exact h
theorem twoF (x y : Nat) (hx : x < 2 ^ 64) (hy : y < 2 ^ 64) : mix_Two.f (x : Int) (y : Int) = some (Mx.two x y : Int) := by
  unfold mix_Two.f
  rw [mixF x hx]
  rw [Option.bind_some]
  rw [Mx.xorI _ _ (Mx.mix_lt _) hy, mixF _ (Mx.xor_lt (Mx.mix_lt _) hy)]
  rfl
theorem twoF0 : mix_Two.f 0 0 = some 0 := by
  have h := twoF 0 0 (by decide) (by decide)
  rw [Mx.two00] at h
  exact h
theorem fixedF : tattlerlaw01_fixed.f = some true := by
  unfold tattlerlaw01_fixed.f
  rw [mixF0, Option.bind_some, if_pos rfl, mixF1, Option.bind_some, if_pos rfl, twoF0, Option.bind_some]
  rfl

theorem bitI (y i : Nat) (hi : i ≤ 64) : Int.tmod (shr .u64 (y : Int) (i : Int)) 2 = ((y / 2 ^ i % 2 : Nat) : Int) := by
  unfold shr
  have hb : IntKind.u64.bits = 64 := rfl
  rw [hb, Int.toNat_natCast, Nat.min_eq_left hi]
  have e : (y : Int) / 2 ^ i = ((y / 2 ^ i : Nat) : Int) := by simp
  rw [e, Int.tmod_eq_emod_of_nonneg (Int.natCast_nonneg _)]
  rfl
theorem liftI (b i : Nat) (hb : b ≤ 1) (hi : i < 64) : shl .u64 (b : Int) (i : Int) = ((b * 2 ^ i : Nat) : Int) := by
  unfold shl
  have hbits : IntKind.u64.bits = 64 := rfl
  rw [hbits, Int.toNat_natCast, Nat.min_eq_left (by omega)]
  have hlt : b * 2 ^ i < 2 ^ 64 := by
    calc b * 2 ^ i ≤ 1 * 2 ^ i := Nat.mul_le_mul_right _ hb
      _ = 2 ^ i := Nat.one_mul _
      _ < 2 ^ 64 := Nat.pow_lt_pow_right (by decide) hi
  have e : (b : Int) * 2 ^ i = ((b * 2 ^ i : Nat) : Int) := by simp
  rw [e, Mx.wrap_small _ hlt]
theorem orI (x y : Nat) (hx : x < 2 ^ 64) (hy : y < 2 ^ 64) : bits .or .u64 (x : Int) (y : Int) = ((x ||| y : Nat) : Int) := u64_or_nat x y (by omega) (by omega)
theorem unit_lt {b i : Nat} (hb : b ≤ 1) (hi : i < 64) : b * 2 ^ i < 2 ^ 64 := by
  calc b * 2 ^ i ≤ 1 * 2 ^ i := Nat.mul_le_mul_right _ hb
    _ = 2 ^ i := Nat.one_mul _
    _ < 2 ^ 64 := Nat.pow_lt_pow_right (by decide) hi
theorem un_round (y n : Nat) (hn : 0 < n) (hn2 : n < 64) (d : Nat) : ∀ (k m : Nat), m + d = 64 → d < k →
    tattlerref01_unshift.l0 k (y : Int) (n : Int) (Mx.unTo y n m : Int) (63 - (m : Int)) = some (Mx.unshift y n : Int) := by
  induction d with
  | zero =>
    intro k m hm hk
    obtain ⟨k, rfl⟩ : ∃ j, k = j + 1 := ⟨k - 1, by omega⟩
    obtain rfl : m = 64 := by omega
    simp only [tattlerref01_unshift.l0]
    rw [if_neg (by omega)]
    rfl
  | succ d ih =>
    intro k m hm hk
    obtain ⟨k, rfl⟩ : ∃ j, k = j + 1 := ⟨k - 1, by omega⟩
    have ei : (63 - (m : Int)) = ((63 - m : Nat) : Int) := by omega
    have hlt := Mx.unTo_lt y n m (by omega)
    have hnext : (wrap64 (63 - (m : Int) - 1)) = 63 - ((m + 1 : Nat) : Int) := by unfold wrap64; omega
    have hsum : wrap64 (63 - (m : Int) + (n : Int)) = ((63 - m + n : Nat) : Int) := by unfold wrap64; omega
    have hub := Mx.unbit_le y n (Mx.unTo y n m) (63 - m)
    have step : Mx.unTo y n (m + 1) = Mx.unTo y n m ||| Mx.unbit y n (Mx.unTo y n m) (63 - m) * 2 ^ (63 - m) := rfl
    simp only [tattlerref01_unshift.l0]
    rw [if_pos (by omega), if_pos (by omega), hsum, hnext]
    by_cases hc : 63 - m + n < 64
    · rw [if_pos (by omega), if_pos (by omega), ei, bitI y (63 - m) (by omega), bitI (Mx.unTo y n m) (63 - m + n) (by omega), Mx.xorI _ _ (by omega) (by omega)]
      have eb : (y / 2 ^ (63 - m) % 2) ^^^ (Mx.unTo y n m / 2 ^ (63 - m + n) % 2) = Mx.unbit y n (Mx.unTo y n m) (63 - m) := by unfold Mx.unbit; rw [if_pos hc]
      rw [eb, liftI _ _ hub (by omega), orI _ _ hlt (unit_lt hub (by omega)), ← step]
      exact ih k (m + 1) (by omega) (by omega)
    · rw [if_neg (by omega), ei, bitI y (63 - m) (by omega)]
      have eb : (y / 2 ^ (63 - m) % 2) = Mx.unbit y n (Mx.unTo y n m) (63 - m) := by unfold Mx.unbit; rw [if_neg hc, Nat.xor_zero]
      rw [eb, liftI _ _ hub (by omega), orI _ _ hlt (unit_lt hub (by omega)), ← step]
      exact ih k (m + 1) (by omega) (by omega)
theorem unshiftF (y n : Nat) (hn : 0 < n) (hn2 : n < 64) (k : Nat) (hk : 64 < k) : tattlerref01_unshift.f k (y : Int) (n : Int) = some (Mx.unshift y n : Int) := by
  unfold tattlerref01_unshift.f
  exact un_round y n hn hn2 64 k 0 (by omega) (by omega)
theorem unmixF (y : Nat) (k : Nat) (hk : 64 < k) : tattlerref01_Unmix.f k (y : Int) = some (Mx.unmix y : Int) := by
  unfold tattlerref01_Unmix.f
  have h1 := unshiftF y 31 (by decide) (by decide) k hk
  have e1 : IntKind.u64.wrap ((Mx.unshift y 31 : Int) * 3573116690164977347) = (Mx.un2 y : Int) := Mx.wrapI _ Mx.D2
  have h2 := unshiftF (Mx.un2 y) 27 (by decide) (by decide) k hk
  have e2 : IntKind.u64.wrap ((Mx.unshift (Mx.un2 y) 27 : Int) * 10871156337175269513) = (Mx.un1 y : Int) := Mx.wrapI _ Mx.D1
  have h3 := unshiftF (Mx.un1 y) 30 (by decide) (by decide) k hk
  have c30 : ((30 : Nat) : Int) = 30 := rfl
  have c27 : ((27 : Nat) : Int) = 27 := rfl
  have c31 : ((31 : Nat) : Int) = 31 := rfl
  rw [c31] at h1
  rw [c27] at h2
  rw [c30] at h3
  rw [h1]
  rw [Option.bind_some]
  rw [e1, h2]
  rw [Option.bind_some]
  rw [e2, h3]
  rfl

theorem eqI (x y : Nat) : ((x : Int) == (y : Int)) = decide (x = y) := by
  rw [Bool.eq_iff_iff, beq_iff_eq, decide_eq_true_iff]
  omega

theorem MixBack : tattlerlaw01_MixBack.Pure := by
  intro a0 w0
  obtain ⟨x, hx, rfl⟩ := Mx.nat_of a0 w0
  refine ⟨65, ?_⟩
  unfold tattlerlaw01_MixBack.f
  rw [fixedF]
  rw [Option.bind_some, if_pos rfl]
  rw [mixF x hx]
  rw [Option.bind_some]
  rw [unmixF _ 65 (by decide), Mx.unmix_mix hx]
  rw [Option.bind_some, if_pos rfl]
  rw [unmixF x 65 (by decide)]
  rw [Option.bind_some]
  rw [mixF _ (Mx.unmix_lt x), Mx.mix_unmix hx]
  rw [Option.bind_some]
  rw [eqI]
  simp

end Go.Proofs.Ytgbdgogeofbaoaa.Pure
