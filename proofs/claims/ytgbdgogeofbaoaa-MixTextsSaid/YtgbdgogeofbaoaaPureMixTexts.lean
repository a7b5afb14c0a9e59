/- Plainly: a text's number and a key's range are the reference's, for texts of at most 5000 bytes; for longer ones the law asks the examples alone. No conditions. -/
import Derived.Test.YtgbdgogeofbaoaaPMixTextsx1
import Derived.Test.YtgbdgogeofbaoaaMix
namespace Go.Proofs.Ytgbdgogeofbaoaa.Pure
open Go.RowKit Go.Proofs.Ytgbdgogeofbaoaa.PMixTexts Go.Proofs.YtgbdgogeofbaoaaW.PrintWords Go.Proofs.YtgbdgogeofbaoaaW.PrintLast

theorem mixF (x : Nat) (hx : x < 2 ^ 64) : mix_Mix.f (x : Int) = some (Mx.mix x : Int) := by
  unfold mix_Mix.f
  rw [Mx.mixI x hx]
theorem mixF1 : mix_Mix.f 1 = some 6238072747940578789 := by
  have h := mixF 1 (by decide)
  rw [Mx.fixed1] at h
  exact h
theorem mixF0 : mix_Mix.f 0 = some 0 := by
  have h := mixF 0 (by decide)
  rw [Mx.fixed0] at h
  exact h
theorem twoF (x y : Nat) (hx : x < 2 ^ 64) (hy : y < 2 ^ 64) : mix_Two.f (x : Int) (y : Int) = some (Mx.two x y : Int) := by
  unfold mix_Two.f
  rw [mixF x hx]
  rw [Option.bind_some]
  rw [Mx.xorI _ _ (Mx.mix_lt _) hy, mixF _ (Mx.xor_lt (Mx.mix_lt _) hy)]
  rfl
theorem twoF0 : mix_Two.f 0 0 = some 0 := by
  have h := twoF 0 0 (by decide) (by decide)
  rw [Mx.two00] at h
  exact h
theorem fixedF : tattlerlaw01_fixed.f = some true := by
  unfold tattlerlaw01_fixed.f
  rw [mixF0, Option.bind_some, if_pos rfl, mixF1, Option.bind_some, if_pos rfl, twoF0, Option.bind_some]
  rfl

theorem half_round (x n : Nat) (hx : x < 2 ^ 64) (hn : n ≤ 64) (d : Nat) : ∀ (k i y : Nat), i + d = n → d < k → y < 2 ^ 64 →
    tattlerref01_half.l0 k (x : Int) (n : Int) (y : Int) (i : Int) = some ((x ^^^ y / 2 ^ d : Nat) : Int) := by
  induction d with
  | zero =>
    intro k i y hi hk hy
    obtain ⟨k, rfl⟩ : ∃ m, k = m + 1 := ⟨k - 1, by omega⟩
    simp only [tattlerref01_half.l0]
    rw [if_neg (by omega), Mx.xorI x y hx hy, Nat.pow_zero, Nat.div_one]
  | succ d ih =>
    intro k i y hi hk hy
    obtain ⟨k, rfl⟩ : ∃ m, k = m + 1 := ⟨k - 1, by omega⟩
    simp only [tattlerref01_half.l0]
    rw [if_pos (by omega)]
    have e1 : Int.tdiv (y : Int) 2 = ((y / 2 : Nat) : Int) := by rw [Int.tdiv_eq_ediv_of_nonneg (by omega)]; omega
    have e2 : wrap64 ((i : Int) + 1) = ((i + 1 : Nat) : Int) := by unfold wrap64; omega
    rw [e1, Mx.wrap_small _ (by omega), e2, ih k (i + 1) (y / 2) (by omega) (by omega) (by omega), Nat.div_div_eq_div_mul, Nat.pow_succ, Nat.mul_comm 2]
theorem halfF (x n : Nat) (hx : x < 2 ^ 64) (hn : n ≤ 64) (k : Nat) (hk : 64 < k) : tattlerref01_half.f k (x : Int) (n : Int) = some ((x ^^^ x / 2 ^ n : Nat) : Int) := by
  unfold tattlerref01_half.f
  exact half_round x n hx hn n k 0 x (by omega) (by omega) hx
theorem refMixF (x : Nat) (hx : x < 2 ^ 64) (k : Nat) (hk : 64 < k) : tattlerref01_Mix.f k (x : Int) = some (Mx.mix x : Int) := by
  unfold tattlerref01_Mix.f
  have h1 := halfF x 30 hx (by decide) k hk
  have e1 : IntKind.u64.wrap (((x ^^^ x / 2 ^ 30 : Nat) : Int) * 13787848793156543929) = (Mx.st1 x : Int) := Mx.wrapI _ Mx.C1
  have h2 := halfF (Mx.st1 x) 27 (Mx.st1_lt x) (by decide) k hk
  have e2 : IntKind.u64.wrap (((Mx.st1 x ^^^ Mx.st1 x / 2 ^ 27 : Nat) : Int) * 10723151780598845931) = (Mx.st2 (Mx.st1 x) : Int) := Mx.wrapI _ Mx.C2
  have h3 := halfF (Mx.st2 (Mx.st1 x)) 31 (Mx.st2_lt _) (by decide) k hk
  have c30 : ((30 : Nat) : Int) = 30 := rfl
  have c27 : ((27 : Nat) : Int) = 27 := rfl
  have c31 : ((31 : Nat) : Int) = 31 := rfl
  rw [c30] at h1
  rw [c27] at h2
  rw [c31] at h3
  rw [h1]
  rw [Option.bind_some]
  rw [e1, h2]
  rw [Option.bind_some]
  rw [e2, h3]
  rfl

theorem bt_nat (s : ByteArray) (i : Nat) (hi : i < s.size) : bt s (i : Int) = (((s.data.toList[i]'(by simpa using hi)).toNat : Nat) : Int) := by
  unfold bt
  rw [dif_pos (by rw [Int.toNat_natCast]; exact hi)]
  rfl
theorem byte_lt (b : UInt8) : b.toNat < 2 ^ 64 := Nat.lt_of_lt_of_le b.toNat_lt (by decide)
theorem text_round (s : ByteArray) (hs : s.size ≤ 5000) (d : Nat) : ∀ (k i : Nat), i + d = s.size → d < k →
    mix_Text.l0 k s (Mx.textFrom Mx.seed (s.data.toList.take i) : Int) (s.size : Int) (i : Int) = some (Mx.text s.data.toList : Int) := by
  induction d with
  | zero =>
    intro k i hi hk
    obtain ⟨k, rfl⟩ : ∃ j, k = j + 1 := ⟨k - 1, by omega⟩
    obtain rfl : i = s.size := by omega
    simp only [mix_Text.l0]
    have hl : s.data.toList.length = s.size := by rw [Array.length_toList]; rfl
    rw [if_neg (by omega), List.take_of_length_le (by omega), Mx.wrap_small _ (by omega), Mx.xorI _ _ (Mx.textFrom_lt _ _ (by decide)) (by omega), mixF _ (Mx.xor_lt (Mx.textFrom_lt _ _ (by decide)) (by omega))]
    rw [Option.bind_some]
    unfold Mx.text
    rw [hl]
  | succ d ih =>
    intro k i hi hk
    obtain ⟨k, rfl⟩ : ∃ j, k = j + 1 := ⟨k - 1, by omega⟩
    have hlt : i < s.size := by omega
    have hl : i < s.data.toList.length := by simpa using hlt
    simp only [mix_Text.l0]
    have e2 : wrap64 ((i : Int) + 1) = ((i + 1 : Nat) : Int) := by unfold wrap64; omega
    rw [if_pos (by omega), if_pos (by omega), if_pos (by omega), bt_nat s i hlt, Mx.wrap_small _ (byte_lt _), Mx.xorI _ _ (Mx.textFrom_lt _ _ (by decide)) (byte_lt _), mixF _ (Mx.xor_lt (Mx.textFrom_lt _ _ (by decide)) (byte_lt _))]
    rw [Option.bind_some]
    rw [e2, ← Mx.textFrom_append, ← List.take_succ_eq_append_getElem hl]
    exact ih k (i + 1) (by omega) (by omega)
theorem textF (s : ByteArray) (hs : s.size ≤ 5000) (k : Nat) (hk : s.size < k) : mix_Text.f k s = some (Mx.text s.data.toList : Int) := by
  unfold mix_Text.f
  exact text_round s hs s.size k 0 (by omega) hk
theorem rangeF (s : ByteArray) (hs : s.size ≤ 5000) (k : Nat) (hk : s.size < k) : mix_Range.f k s = some (Mx.range s.data.toList : Int) := by
  unfold mix_Range.f
  rw [textF s hs k hk]
  have h := Mx.text_lt s.data.toList
  have e : wrap64 ((Mx.text s.data.toList : Int) / 288230376151711744) = (Mx.range s.data.toList : Int) := by
    unfold wrap64 Mx.range
    omega
  rw [Option.bind_some]
  rw [e]

theorem refText_round (s : ByteArray) (hs : s.size ≤ 5000) (d : Nat) : ∀ (k i : Nat), i + d = s.size → d + 65 < k →
    tattlerref01_Text.l0 k s (Mx.textFrom Mx.seed (s.data.toList.take i) : Int) (i : Int) = some (Mx.text s.data.toList : Int) := by
  induction d with
  | zero =>
    intro k i hi hk
    obtain ⟨k, rfl⟩ : ∃ j, k = j + 1 := ⟨k - 1, by omega⟩
    obtain rfl : i = s.size := by omega
    simp only [tattlerref01_Text.l0]
    have hl : s.data.toList.length = s.size := by rw [Array.length_toList]; rfl
    rw [if_neg (by omega), List.take_of_length_le (by omega), Mx.wrap_small _ (by omega), Mx.xorI _ _ (Mx.textFrom_lt _ _ (by decide)) (by omega), refMixF _ (Mx.xor_lt (Mx.textFrom_lt _ _ (by decide)) (by omega)) k (by omega)]
    rw [Option.bind_some]
    unfold Mx.text
    rw [hl]
  | succ d ih =>
    intro k i hi hk
    obtain ⟨k, rfl⟩ : ∃ j, k = j + 1 := ⟨k - 1, by omega⟩
    have hlt : i < s.size := by omega
    have hl : i < s.data.toList.length := by simpa using hlt
    simp only [tattlerref01_Text.l0]
    have e2 : wrap64 ((i : Int) + 1) = ((i + 1 : Nat) : Int) := by unfold wrap64; omega
    rw [if_pos (by omega), if_pos (by omega), bt_nat s i hlt, Mx.wrap_small _ (byte_lt _), Mx.xorI _ _ (Mx.textFrom_lt _ _ (by decide)) (byte_lt _), refMixF _ (Mx.xor_lt (Mx.textFrom_lt _ _ (by decide)) (byte_lt _)) k (by omega)]
    rw [Option.bind_some]
    rw [e2, ← Mx.textFrom_append, ← List.take_succ_eq_append_getElem hl]
    exact ih k (i + 1) (by omega) (by omega)
theorem refTextF (s : ByteArray) (hs : s.size ≤ 5000) (k : Nat) (hk : s.size + 65 < k) : tattlerref01_Text.f k s = some (Mx.text s.data.toList : Int) := by
  unfold tattlerref01_Text.f
  exact refText_round s hs s.size k 0 (by omega) hk
theorem refRangeF (s : ByteArray) (hs : s.size ≤ 5000) (k : Nat) (hk : s.size + 65 < k) : tattlerref01_Range.f k s = some (Mx.range s.data.toList : Int) := by
  unfold tattlerref01_Range.f
  rw [refTextF s hs k hk]
  have h := Mx.text_lt s.data.toList
  have e : wrap64 (IntKind.u64.wrap (Int.tdiv (Mx.text s.data.toList : Int) 288230376151711744)) = (Mx.range s.data.toList : Int) := by
    rw [Int.tdiv_eq_ediv_of_nonneg (by omega), IntKind.wrap_u64]
    unfold wrap64 Mx.range
    omega
  rw [Option.bind_some]
  rw [e]

theorem eqI (x y : Nat) : ((x : Int) == (y : Int)) = decide (x = y) := by
  rw [Bool.eq_iff_iff, beq_iff_eq, decide_eq_true_iff]
  omega

theorem MixTexts : tattlerlaw01_MixTexts.Pure := by
  intro s _
  refine ⟨s.size + 66, ?_⟩
  unfold tattlerlaw01_MixTexts.f
  by_cases hs : s.size ≤ 5000
  · rw [if_neg (by omega), fixedF]
    rw [Option.bind_some, if_pos rfl]
    rw [textF s hs _ (by omega), Option.bind_some, refTextF s hs _ (by omega)]
    rw [Option.bind_some, if_pos rfl]
    rw [rangeF s hs _ (by omega), Option.bind_some, refRangeF s hs _ (by omega)]
    rw [Option.bind_some]
    rw [eqI]
    simp
  · rw [if_pos (by omega), fixedF]
    rfl

end Go.Proofs.Ytgbdgogeofbaoaa.Pure
