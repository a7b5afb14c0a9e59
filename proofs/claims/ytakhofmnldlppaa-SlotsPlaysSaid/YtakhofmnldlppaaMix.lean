/- Plain facts about mixing: xor-shift and odd multiplication of 64-bit numbers are one to one, there is a way back, and the translation's integers compute them. Conditions: numbers below 2^64. -/
import Derived.Laws.Bits64
import Derived.Laws.BitsAllLaws
import Derived.OpenShut
namespace Mx
theorem xs_test (x k i : Nat) : (x ^^^ x / 2 ^ k).testBit i = Bool.xor (x.testBit i) (x.testBit (i + k)) := by
  rw [Nat.testBit_xor, ← Nat.shiftRight_eq_div_pow, Nat.testBit_shiftRight, Nat.add_comm]

theorem bit_big {x n i : Nat} (h : x < 2 ^ n) (hi : n ≤ i) : x.testBit i = false :=
  Nat.testBit_lt_two_pow (Nat.lt_of_lt_of_le h (Nat.pow_le_pow_right (by decide) hi))

/-- A xor-shift is one to one on 64 bits. -/
theorem xs_inj {x y k : Nat} (hk : 0 < k) (hx : x < 2 ^ 64) (hy : y < 2 ^ 64) (h : x ^^^ x / 2 ^ k = y ^^^ y / 2 ^ k) : x = y := by
  have key : ∀ d i, 64 - i ≤ d → x.testBit i = y.testBit i := by
    intro d
    induction d with
    | zero => intro i hi; rw [bit_big hx (by omega), bit_big hy (by omega)]
    | succ d ih =>
      intro i hi
      by_cases hb : 64 ≤ i
      · rw [bit_big hx hb, bit_big hy hb]
      · have h1 := ih (i + k) (by omega)
        have h2 := congrArg (fun z => z.testBit i) h
        simp only [xs_test] at h2
        rw [h1] at h2
        revert h2
        cases x.testBit i <;> cases y.testBit i <;> cases y.testBit (i + k) <;> simp
  exact Nat.eq_of_testBit_eq fun i => key 64 i (by omega)

theorem xs_lt {x k : Nat} (hx : x < 2 ^ 64) : x ^^^ x / 2 ^ k < 2 ^ 64 :=
  Nat.xor_lt_two_pow hx (Nat.lt_of_le_of_lt (Nat.div_le_self _ _) hx)

/-- An odd multiplier has a way back. -/
theorem mul_back {c d n : Nat} (hcd : c * d % n = 1 % n) {x : Nat} (hx : x < n) : x * c % n * d % n = x := by
  rw [Nat.mod_mul_mod, Nat.mul_assoc, Nat.mul_mod, hcd, ← Nat.mul_mod, Nat.mul_one, Nat.mod_eq_of_lt hx]

def C1 : Nat := 13787848793156543929
def C2 : Nat := 10723151780598845931
def D1 : Nat := 0x96DE1B173F119089
def D2 : Nat := 0x319642B2D24D8EC3
theorem c1d1 : C1 * D1 % 2 ^ 64 = 1 := by decide +kernel
theorem c2d2 : C2 * D2 % 2 ^ 64 = 1 := by decide +kernel
theorem d1c1 : D1 * C1 % 2 ^ 64 = 1 := by decide +kernel
theorem d2c2 : D2 * C2 % 2 ^ 64 = 1 := by decide +kernel

def st1 (x : Nat) : Nat := (x ^^^ x / 2 ^ 30) * C1 % 2 ^ 64
def st2 (x : Nat) : Nat := (x ^^^ x / 2 ^ 27) * C2 % 2 ^ 64
def st3 (x : Nat) : Nat := x ^^^ x / 2 ^ 31
/-- A number of 64 bits, mixed. -/
def mix (x : Nat) : Nat := st3 (st2 (st1 x))
def two (x y : Nat) : Nat := mix (mix x ^^^ y)

theorem st1_lt (x : Nat) : st1 x < 2 ^ 64 := Nat.mod_lt _ (by decide)
theorem st2_lt (x : Nat) : st2 x < 2 ^ 64 := Nat.mod_lt _ (by decide)
theorem mix_lt (x : Nat) : mix x < 2 ^ 64 := xs_lt (st2_lt _)
theorem two_lt (x y : Nat) : two x y < 2 ^ 64 := mix_lt _

theorem mix_inj {x y : Nat} (hx : x < 2 ^ 64) (hy : y < 2 ^ 64) (h : mix x = mix y) : x = y := by
  have h3 : st2 (st1 x) = st2 (st1 y) := xs_inj (by decide) (st2_lt _) (st2_lt _) h
  have h2 : st1 x = st1 y := by
    have e : ∀ z, z < 2 ^ 64 → st2 z * D2 % 2 ^ 64 = z ^^^ z / 2 ^ 27 := fun z hz => mul_back (by rw [c2d2]) (xs_lt hz)
    have := congrArg (fun z => z * D2 % 2 ^ 64) h3
    simp only [e _ (st1_lt _)] at this
    exact xs_inj (by decide) (st1_lt _) (st1_lt _) this
  have e : ∀ z, z < 2 ^ 64 → st1 z * D1 % 2 ^ 64 = z ^^^ z / 2 ^ 30 := fun z hz => mul_back (by rw [c1d1]) (xs_lt hz)
  have := congrArg (fun z => z * D1 % 2 ^ 64) h2
  simp only [e _ hx, e _ hy] at this
  exact xs_inj (by decide) hx hy this

theorem xor_lt {x y : Nat} (hx : x < 2 ^ 64) (hy : y < 2 ^ 64) : x ^^^ y < 2 ^ 64 := Nat.xor_lt_two_pow hx hy
theorem xor_left_inj {a x y : Nat} (h : a ^^^ x = a ^^^ y) : x = y := by
  have := congrArg (fun z => a ^^^ z) h
  simpa [← Nat.xor_assoc] using this
theorem xor_right_inj {a x y : Nat} (h : x ^^^ a = y ^^^ a) : x = y := by
  rw [Nat.xor_comm x, Nat.xor_comm y] at h
  exact xor_left_inj h

theorem two_inj {z x y : Nat} (hx : x < 2 ^ 64) (hy : y < 2 ^ 64) (h : two z x = two z y) : x = y :=
  xor_left_inj (mix_inj (xor_lt (mix_lt _) hx) (xor_lt (mix_lt _) hy) h)
theorem two_first {x y z : Nat} (hx : x < 2 ^ 64) (hy : y < 2 ^ 64) (hz : z < 2 ^ 64) (h : two x z = two y z) : x = y :=
  mix_inj hx hy (xor_right_inj (mix_inj (xor_lt (mix_lt _) hz) (xor_lt (mix_lt _) hz) h))

/-- One step of going back: the bit 'i' of the number whose xor-shift is 'y', over the bits above it. -/
def unbit (y k x i : Nat) : Nat := (y / 2 ^ i % 2) ^^^ (if i + k < 64 then x / 2 ^ (i + k) % 2 else 0)
/-- 'unTo n': behind the bits 63 .. 64 - n. -/
def unTo (y k : Nat) : Nat → Nat
  | 0 => 0
  | n + 1 => unTo y k n ||| unbit y k (unTo y k n) (63 - n) * 2 ^ (63 - n)
def unshift (y k : Nat) : Nat := unTo y k 64

theorem bit_div (x i : Nat) : x / 2 ^ i % 2 = (x.testBit i).toNat := by
  rw [Nat.testBit_eq_decide_div_mod_eq]
  have : x / 2 ^ i % 2 = 0 ∨ x / 2 ^ i % 2 = 1 := by omega
  rcases this with h | h <;> simp [h]

theorem unbit_le (y k x i : Nat) : unbit y k x i ≤ 1 := by
  unfold unbit
  rw [bit_div]
  split
  · rw [bit_div]; cases y.testBit i <;> cases x.testBit (i + k) <;> decide
  · cases y.testBit i <;> decide

theorem test_unit {b i j : Nat} (hb : b ≤ 1) : (b * 2 ^ i).testBit j = (decide (i = j) && decide (b = 1)) := by
  have : b = 0 ∨ b = 1 := by omega
  rcases this with rfl | rfl
  · simp
  · simp [Nat.testBit_two_pow]

theorem unTo_low (y k : Nat) : ∀ n j, n ≤ 64 → j < 64 - n → (unTo y k n).testBit j = false := by
  intro n
  induction n with
  | zero => intro j _ _; simp [unTo]
  | succ n ih =>
    intro j hn hj
    rw [unTo, Nat.testBit_or, ih j (by omega) (by omega), test_unit (unbit_le _ _ _ _)]
    have : ¬ (63 - n = j) := by omega
    simp [this]

theorem unTo_lt (y k : Nat) : ∀ n, n ≤ 64 → unTo y k n < 2 ^ 64 := by
  intro n
  induction n with
  | zero => intro _; simp [unTo]
  | succ n ih =>
    intro hn
    rw [unTo]
    refine Nat.or_lt_two_pow (ih (by omega)) ?_
    have h1 := unbit_le y k (unTo y k n) (63 - n)
    calc unbit y k (unTo y k n) (63 - n) * 2 ^ (63 - n) ≤ 1 * 2 ^ (63 - n) := Nat.mul_le_mul_right _ h1
      _ = 2 ^ (63 - n) := Nat.one_mul _
      _ < 2 ^ 64 := Nat.pow_lt_pow_right (by decide) (by omega)

theorem unTo_high (y k : Nat) (hk : 0 < k) : ∀ n j, n ≤ 64 → 64 - n ≤ j → j < 64 →
    (unTo y k n).testBit j = Bool.xor (y.testBit j) (decide (j + k < 64) && (unTo y k n).testBit (j + k)) := by
  intro n
  induction n with
  | zero => intro j _ h1 h2; omega
  | succ n ih =>
    intro j hn hj hj2
    have hstep : ∀ m, m ≠ 63 - n → (unTo y k (n + 1)).testBit m = (unTo y k n).testBit m := by
      intro m hm
      rw [unTo, Nat.testBit_or, test_unit (unbit_le _ _ _ _)]
      have : ¬ (63 - n = m) := fun h => hm h.symm
      simp [this]
    rw [hstep (j + k) (by omega)]
    by_cases he : j = 63 - n
    · subst he
      rw [unTo, Nat.testBit_or, unTo_low y k n _ (by omega) (by omega), test_unit (unbit_le _ _ _ _)]
      simp only [Bool.false_or, decide_true, Bool.true_and]
      unfold unbit
      rw [bit_div, bit_div]
      by_cases hc : 63 - n + k < 64
      · rw [if_pos hc]
        simp only [hc, decide_true, Bool.true_and]
        cases y.testBit (63 - n) <;> cases (unTo y k n).testBit (63 - n + k) <;> decide
      · rw [if_neg hc]
        simp only [hc, decide_false, Bool.false_and]
        cases y.testBit (63 - n) <;> decide
    · rw [hstep j he]
      exact ih j (by omega) (by omega) hj2

theorem unshift_lt (y k : Nat) : unshift y k < 2 ^ 64 := unTo_lt y k 64 (Nat.le_refl _)

/-- Going back, then forth. -/
theorem half_unshift {y k : Nat} (hk : 0 < k) (hy : y < 2 ^ 64) : unshift y k ^^^ unshift y k / 2 ^ k = y := by
  refine Nat.eq_of_testBit_eq fun i => ?_
  rw [xs_test]
  by_cases hi : i < 64
  · have h := unTo_high y k hk 64 i (Nat.le_refl _) (by omega) hi
    by_cases hc : i + k < 64
    · simp only [hc, decide_true, Bool.true_and] at h
      unfold unshift
      rw [h]
      cases y.testBit i <;> cases (unTo y k 64).testBit (i + k) <;> decide
    · simp only [hc, decide_false, Bool.false_and] at h
      rw [bit_big (unshift_lt y k) (show 64 ≤ i + k by omega)]
      unfold unshift
      rw [h]
      cases y.testBit i <;> decide
  · rw [bit_big (unshift_lt y k) (show 64 ≤ i by omega), bit_big (unshift_lt y k) (show 64 ≤ i + k by omega), bit_big hy (show 64 ≤ i by omega)]
    decide

/-- Forth, then going back. -/
theorem unshift_half {x k : Nat} (hk : 0 < k) (hx : x < 2 ^ 64) : unshift (x ^^^ x / 2 ^ k) k = x :=
  xs_inj hk (unshift_lt _ _) hx (half_unshift hk (xs_lt hx))

def un2 (y : Nat) : Nat := unshift y 31 * D2 % 2 ^ 64
def un1 (y : Nat) : Nat := unshift (un2 y) 27 * D1 % 2 ^ 64
def unmix (y : Nat) : Nat := unshift (un1 y) 30

theorem unmix_lt (y : Nat) : unmix y < 2 ^ 64 := unshift_lt _ _
theorem unmix_mix {x : Nat} (hx : x < 2 ^ 64) : unmix (mix x) = x := by
  unfold unmix un1 un2 mix st3
  rw [unshift_half (by decide) (st2_lt _)]
  have e2 : st2 (st1 x) * D2 % 2 ^ 64 = st1 x ^^^ st1 x / 2 ^ 27 := mul_back (by rw [c2d2]) (xs_lt (st1_lt x))
  rw [e2, unshift_half (by decide) (st1_lt _)]
  have e1 : st1 x * D1 % 2 ^ 64 = x ^^^ x / 2 ^ 30 := mul_back (by rw [c1d1]) (xs_lt hx)
  rw [e1, unshift_half (by decide) hx]
theorem mix_unmix {y : Nat} (hy : y < 2 ^ 64) : mix (unmix y) = y := by
  have h1 : un1 y < 2 ^ 64 := Nat.mod_lt _ (by decide)
  have h2 : un2 y < 2 ^ 64 := Nat.mod_lt _ (by decide)
  unfold mix
  have e1 : st1 (unmix y) = unshift (un2 y) 27 := by
    unfold st1 unmix
    rw [half_unshift (by decide) h1]
    exact mul_back (by rw [d1c1]) (unshift_lt _ _)
  have e2 : st2 (st1 (unmix y)) = unshift y 31 := by
    rw [e1]
    unfold st2
    rw [half_unshift (by decide) h2]
    exact mul_back (by rw [d2c2]) (unshift_lt _ _)
  rw [e2]
  exact half_unshift (by decide) hy

theorem mix_eq {x y : Nat} (hx : x < 2 ^ 64) (hy : y < 2 ^ 64) : (mix x = mix y) ↔ x = y := ⟨mix_inj hx hy, fun h => by rw [h]⟩

/-- A text's number, from its bytes. -/
def textFrom (x : Nat) : List UInt8 → Nat
  | [] => x
  | b :: l => textFrom (mix (x ^^^ b.toNat)) l
def seed : Nat := 11400714819323198485
def text (l : List UInt8) : Nat := mix (textFrom seed l ^^^ l.length)

theorem textFrom_lt (l : List UInt8) : ∀ x, x < 2 ^ 64 → textFrom x l < 2 ^ 64 := by
  induction l with
  | nil => intro x hx; exact hx
  | cons b l ih => intro x _; exact ih _ (mix_lt _)
theorem textFrom_append (l : List UInt8) (b : UInt8) : ∀ x, textFrom x (l ++ [b]) = mix (textFrom x l ^^^ b.toNat) := by
  induction l with
  | nil => intro x; rfl
  | cons c l ih => intro x; exact ih _
theorem text_lt (l : List UInt8) : text l < 2 ^ 64 := mix_lt _
def range (l : List UInt8) : Nat := text l / 2 ^ 58
theorem range_lt (l : List UInt8) : range l < 64 := by
  have := text_lt l
  unfold range
  omega
end Mx
namespace Mx
open Go
theorem xsI (x k s : Nat) (hx : x < 2 ^ 64) (hs : s = 2 ^ k) : bits .xor .u64 (x : Int) ((x : Int) / (s : Int)) = ((x ^^^ x / 2 ^ k : Nat) : Int) := by
  rw [xorShift_u64 x s (by omega), hs]
theorem xorI (x y : Nat) (hx : x < 2 ^ 64) (hy : y < 2 ^ 64) : bits .xor .u64 (x : Int) (y : Int) = ((x ^^^ y : Nat) : Int) := bits_xor_u64_nat x y (by omega) (by omega)
theorem wrapI (x c : Nat) : IntKind.u64.wrap ((x : Int) * (c : Int)) = ((x * c % 2 ^ 64 : Nat) : Int) := by
  rw [IntKind.wrap_u64, Int.natCast_emod, Int.natCast_mul]; rfl
theorem wrap_small (x : Nat) (hx : x < 2 ^ 64) : IntKind.u64.wrap (x : Int) = (x : Int) := by
  rw [IntKind.wrap_u64]; omega
theorem step1 (x : Nat) (hx : x < 2 ^ 64) : IntKind.u64.wrap (bits .xor .u64 (x : Int) ((x : Int) / 1073741824) * 13787848793156543929) = (st1 x : Int) := by
  have h := xsI x 30 1073741824 hx (by decide)
  have e : ((1073741824 : Nat) : Int) = 1073741824 := rfl
  rw [e] at h
  rw [h]
  exact wrapI _ C1
theorem step2 (x : Nat) (hx : x < 2 ^ 64) : IntKind.u64.wrap (bits .xor .u64 (x : Int) ((x : Int) / 134217728) * 10723151780598845931) = (st2 x : Int) := by
  have h := xsI x 27 134217728 hx (by decide)
  have e : ((134217728 : Nat) : Int) = 134217728 := rfl
  rw [e] at h
  rw [h]
  exact wrapI _ C2
theorem step3 (x : Nat) (hx : x < 2 ^ 64) : bits .xor .u64 (x : Int) ((x : Int) / 2147483648) = (st3 x : Int) := by
  have h := xsI x 31 2147483648 hx (by decide)
  have e : ((2147483648 : Nat) : Int) = 2147483648 := rfl
  rw [e] at h
  exact h
/-- What the program's Mix computes, as integers, is 'mix'. -/
theorem mixI (x : Nat) (hx : x < 2 ^ 64) :
    bits .xor .u64 (IntKind.u64.wrap (bits .xor .u64 (IntKind.u64.wrap (bits .xor .u64 (x : Int) ((x : Int) / 1073741824) * 13787848793156543929)) (IntKind.u64.wrap (bits .xor .u64 (x : Int) ((x : Int) / 1073741824) * 13787848793156543929) / 134217728) * 10723151780598845931))
      (IntKind.u64.wrap (bits .xor .u64 (IntKind.u64.wrap (bits .xor .u64 (x : Int) ((x : Int) / 1073741824) * 13787848793156543929)) (IntKind.u64.wrap (bits .xor .u64 (x : Int) ((x : Int) / 1073741824) * 13787848793156543929) / 134217728) * 10723151780598845931) / 2147483648) = (mix x : Int) := by
  rw [step1 x hx, step2 _ (st1_lt x), step3 _ (st2_lt _)]
  rfl
theorem nat_of (x : Int) (h : (Lit.int .u64 x).wf = true) : ∃ n : Nat, n < 2 ^ 64 ∧ x = (n : Int) := by
  have hb := bounds_u64 h
  exact ⟨x.toNat, by omega, by omega⟩
theorem fixed1 : mix 1 = 6238072747940578789 := by decide +kernel
theorem fixed0 : mix 0 = 0 := by decide +kernel
theorem two00 : two 0 0 = 0 := by decide +kernel
end Mx
