/- Plainly: a key's range is from 0 to 63 and is the six highest bits of its number, for keys of at most 5000 bytes; for longer ones the law asks the examples alone. No conditions. -/
import Derived.Test.YtgbdgogeofbaoaaPMixRangex1
import Derived.Test.YtgbdgogeofbaoaaMix
namespace Go.Proofs.Ytgbdgogeofbaoaa.Pure
open Go.RowKit Go.Proofs.Ytgbdgogeofbaoaa.PMixRange Go.Proofs.YtgbdgogeofbaoaaW.PrintWords Go.Proofs.YtgbdgogeofbaoaaW.PrintLast

theorem mixF (x : Nat) (hx : x < 2 ^ 64) : mix_Mix.f (x : Int) = some (Mx.mix x : Int) := by
  unfold mix_Mix.f
  rw [Mx.mixI x hx]
theorem mixF1 : mix_Mix.f 1 = some 6238072747940578789 := by
  have h := mixF 1 (by decide)
  rw [Mx.fixed1] at h
  exact h
theorem mixF0 : mix_Mix.f 0 = some 0 := by
  have h := mixF 0 (by decide)
  rw [Mx.fixed0] at h
  exact h
theorem twoF (x y : Nat) (hx : x < 2 ^ 64) (hy : y < 2 ^ 64) : mix_Two.f (x : Int) (y : Int) = some (Mx.two x y : Int) := by
  unfold mix_Two.f
  rw [mixF x hx]
  rw [Option.bind_some]
  rw [Mx.xorI _ _ (Mx.mix_lt _) hy, mixF _ (Mx.xor_lt (Mx.mix_lt _) hy)]
  rfl
theorem twoF0 : mix_Two.f 0 0 = some 0 := by
  have h := twoF 0 0 (by decide) (by decide)
  rw [Mx.two00] at h
  exact h
theorem fixedF : tattlerlaw01_fixed.f = some true := by
  unfold tattlerlaw01_fixed.f
  rw [mixF0, Option.bind_some, if_pos rfl, mixF1, Option.bind_some, if_pos rfl, twoF0, Option.bind_some]
  rfl

theorem bt_nat (s : ByteArray) (i : Nat) (hi : i < s.size) : bt s (i : Int) = (((s.data.toList[i]'(by simpa using hi)).toNat : Nat) : Int) := by
  unfold bt
  rw [dif_pos (by rw [Int.toNat_natCast]; exact hi)]
  rfl
theorem byte_lt (b : UInt8) : b.toNat < 2 ^ 64 := Nat.lt_of_lt_of_le b.toNat_lt (by decide)
theorem text_round (s : ByteArray) (hs : s.size ≤ 5000) (d : Nat) : ∀ (k i : Nat), i + d = s.size → d < k →
    mix_Text.l0 k s (Mx.textFrom Mx.seed (s.data.toList.take i) : Int) (s.size : Int) (i : Int) = some (Mx.text s.data.toList : Int) := by
  induction d with
  | zero =>
    intro k i hi hk
    obtain ⟨k, rfl⟩ : ∃ j, k = j + 1 := ⟨k - 1, by omega⟩
    obtain rfl : i = s.size := by omega
    simp only [mix_Text.l0]
    have hl : s.data.toList.length = s.size := by rw [Array.length_toList]; rfl
    rw [if_neg (by omega), List.take_of_length_le (by omega), Mx.wrap_small _ (by omega), Mx.xorI _ _ (Mx.textFrom_lt _ _ (by decide)) (by omega), mixF _ (Mx.xor_lt (Mx.textFrom_lt _ _ (by decide)) (by omega))]
    rw [Option.bind_some]
    unfold Mx.text
    rw [hl]
  | succ d ih =>
    intro k i hi hk
    obtain ⟨k, rfl⟩ : ∃ j, k = j + 1 := ⟨k - 1, by omega⟩
    have hlt : i < s.size := by omega
    have hl : i < s.data.toList.length := by simpa using hlt
    simp only [mix_Text.l0]
    have e2 : wrap64 ((i : Int) + 1) = ((i + 1 : Nat) : Int) := by unfold wrap64; omega
    rw [if_pos (by omega), if_pos (by omega), if_pos (by omega), bt_nat s i hlt, Mx.wrap_small _ (byte_lt _), Mx.xorI _ _ (Mx.textFrom_lt _ _ (by decide)) (byte_lt _), mixF _ (Mx.xor_lt (Mx.textFrom_lt _ _ (by decide)) (byte_lt _))]
    rw [Option.bind_some]
    rw [e2, ← Mx.textFrom_append, ← List.take_succ_eq_append_getElem hl]
    exact ih k (i + 1) (by omega) (by omega)
theorem textF (s : ByteArray) (hs : s.size ≤ 5000) (k : Nat) (hk : s.size < k) : mix_Text.f k s = some (Mx.text s.data.toList : Int) := by
  unfold mix_Text.f
  exact text_round s hs s.size k 0 (by omega) hk
theorem rangeF (s : ByteArray) (hs : s.size ≤ 5000) (k : Nat) (hk : s.size < k) : mix_Range.f k s = some (Mx.range s.data.toList : Int) := by
  unfold mix_Range.f
  rw [textF s hs k hk]
  have h := Mx.text_lt s.data.toList
  have e : wrap64 ((Mx.text s.data.toList : Int) / 288230376151711744) = (Mx.range s.data.toList : Int) := by
    unfold wrap64 Mx.range
    omega
  rw [Option.bind_some]
  rw [e]

theorem eqI (x y : Nat) : ((x : Int) == (y : Int)) = decide (x = y) := by
  rw [Bool.eq_iff_iff, beq_iff_eq, decide_eq_true_iff]
  omega

theorem MixRange : tattlerlaw01_MixRange.Pure := by
  intro s _
  refine ⟨s.size + 66, ?_⟩
  unfold tattlerlaw01_MixRange.f
  by_cases hs : s.size ≤ 5000
  · have hr := Mx.range_lt s.data.toList
    rw [if_neg (by omega), rangeF s hs _ (by omega)]
    rw [Option.bind_some]
    rw [fixedF]
    rw [Option.bind_some, if_pos rfl]
    rw [if_pos (by omega), if_pos (by omega), textF s hs _ (by omega)]
    rw [Option.bind_some]
    have e : ((Mx.text s.data.toList : Int) / 288230376151711744) = ((Mx.range s.data.toList : Nat) : Int) := by
      unfold Mx.range
      omega
    rw [e, Mx.wrap_small _ (by omega), eqI]
    simp
  · rw [if_pos (by omega), fixedF]
    rfl

end Go.Proofs.Ytgbdgogeofbaoaa.Pure
