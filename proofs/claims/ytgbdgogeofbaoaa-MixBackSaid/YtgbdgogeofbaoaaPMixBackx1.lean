-- PRINTED BY print.sh 35421559b90ae4d0a3588c463048766b98c2df88dd9212a6774a882060cdf62d: not written by this session
import Derived.Test.YtgbdgogeofbaoaaPMixBackx0
namespace Go.Proofs.Ytgbdgogeofbaoaa.PMixBack
open Go.RowKit Go.Proofs.YtgbdgogeofbaoaaW.PrintWords Go.Proofs.YtgbdgogeofbaoaaW.PrintLast Go.Proofs.YtgbdgogeofbaoaaW.PrintMore
attribute [local go_sem] max2_int min2_int max_two min_two max_three min_three max_four min_four   -- for this text's walks alone
set_option linter.unusedVariables false
set_option linter.unusedSimpArgs false

/-! ### mix_Mix: function 10 -/
def mix_Mix.f (a0 : Int) : Option (Int) := some (Go.bits .xor .u64 (IntKind.u64.wrap ((Go.bits .xor .u64 (IntKind.u64.wrap ((Go.bits .xor .u64 a0 (a0 / 1073741824)) * 13787848793156543929)) ((IntKind.u64.wrap ((Go.bits .xor .u64 a0 (a0 / 1073741824)) * 13787848793156543929)) / 134217728)) * 10723151780598845931)) ((IntKind.u64.wrap ((Go.bits .xor .u64 (IntKind.u64.wrap ((Go.bits .xor .u64 a0 (a0 / 1073741824)) * 13787848793156543929)) ((IntKind.u64.wrap ((Go.bits .xor .u64 a0 (a0 / 1073741824)) * 13787848793156543929)) / 134217728)) * 10723151780598845931)) / 2147483648))
set_option maxHeartbeats 8000000 in
set_option maxRecDepth 100000 in
theorem mix_Mix.calls (a0 : Int) (r : Int) (w : World) (h : mix_Mix.f a0 = some r) :
    Calls Try.prog 10 #[.int .u64 a0] w fun e w' => e = .returned (.int .u64 r) ∧ Drawn0 w w' := by
  have H : (some (Go.bits .xor .u64 (IntKind.u64.wrap ((Go.bits .xor .u64 (IntKind.u64.wrap ((Go.bits .xor .u64 a0 (a0 / 1073741824)) * 13787848793156543929)) ((IntKind.u64.wrap ((Go.bits .xor .u64 a0 (a0 / 1073741824)) * 13787848793156543929)) / 134217728)) * 10723151780598845931)) ((IntKind.u64.wrap ((Go.bits .xor .u64 (IntKind.u64.wrap ((Go.bits .xor .u64 a0 (a0 / 1073741824)) * 13787848793156543929)) ((IntKind.u64.wrap ((Go.bits .xor .u64 a0 (a0 / 1073741824)) * 13787848793156543929)) / 134217728)) * 10723151780598845931)) / 2147483648))) = some r := h
  clear h
  obtain rfl := Option.some.inj H
  go_enter Try.func10, Try.ntmps10
  go_wp2
  go_ret
  exact ⟨by first | rfl | (simp; done) | (simp [*]; done), by repeat (first | exact Drawn0.refl _ | apply Drawn0.step)⟩

/-! ### mix_Two: function 12 -/
def mix_Two.f (a0 : Int) (a1 : Int) : Option (Int) := (mix_Mix.f a0).bind fun t101 => ((mix_Mix.f (Go.bits .xor .u64 t101 a1)).bind fun t102 => (some t102))
set_option maxHeartbeats 8000000 in
set_option maxRecDepth 100000 in
theorem mix_Two.calls (a0 : Int) (a1 : Int) (r : Int) (w : World) (h : mix_Two.f a0 a1 = some r) :
    Calls Try.prog 12 #[.int .u64 a0, .int .u64 a1] w fun e w' => e = .returned (.int .u64 r) ∧ Drawn0 w w' := by
  have H : ((mix_Mix.f a0).bind fun t101 => ((mix_Mix.f (Go.bits .xor .u64 t101 a1)).bind fun t102 => (some t102))) = some r := h
  clear h
  replace H := Option.bind_eq_some_iff.mp H
  obtain ⟨t101, A30, H⟩ := H
  replace H : ((mix_Mix.f (Go.bits .xor .u64 t101 a1)).bind fun t102 => (some t102)) = some r := H
  have A3 := Aside0.mk A30
  clear A30
  replace H := Option.bind_eq_some_iff.mp H
  obtain ⟨t102, A40, H⟩ := H
  replace H : (some t102) = some r := H
  have A4 := Aside0.mk A40
  clear A40
  obtain rfl := Option.some.inj H
  go_enter Try.func12, Try.ntmps12
  go_wp2_with (first | ((with_reducible refine gate_callee (f := 10) rfl ?_); refine goesL_ (some 6) rfl rfl Try.func10 (by kernel_rfl) rfl #[.int .u64 a0] rfl (by (try simp only [List.map_toArray, List.map_cons, List.map_nil]); first | done | rfl | (simp only [List.length_drop, List.length_take]; rfl)) ?_; (with_reducible refine (mix_Mix.calls a0 t101 _ A3.out).mono ?_); rintro e w' ⟨rfl, ⟨nd, rfl⟩⟩; refine ⟨_, rfl, ?_⟩) | ((with_reducible refine gate_callee (f := 10) rfl ?_); refine goesL_ (some 9) rfl rfl Try.func10 (by kernel_rfl) rfl #[.int .u64 (Go.bits .xor .u64 t101 a1)] rfl (by (try simp only [List.map_toArray, List.map_cons, List.map_nil]); first | done | rfl | (simp only [List.length_drop, List.length_take]; rfl)) ?_; (with_reducible refine (mix_Mix.calls (Go.bits .xor .u64 t101 a1) t102 _ A4.out).mono ?_); rintro e w' ⟨rfl, ⟨nd, rfl⟩⟩; refine ⟨_, rfl, ?_⟩))
  go_ret
  exact ⟨by first | rfl | (simp; done) | (simp [*]; done), by repeat (first | exact Drawn0.refl _ | apply Drawn0.step)⟩

/-! ### tattlerlaw01_fixed: function 9 -/
def tattlerlaw01_fixed.f  : Option (Bool) := (mix_Mix.f 0).bind fun t103 => (if t103 = 0 then ((mix_Mix.f 1).bind fun t104 => (if t104 = 6238072747940578789 then ((mix_Two.f 0 0).bind fun t105 => (some (t105 == 0))) else (some false))) else (some false))
set_option maxHeartbeats 8000000 in
set_option maxRecDepth 100000 in
theorem tattlerlaw01_fixed.calls  (r : Bool) (w : World) (h : tattlerlaw01_fixed.f  = some r) :
    Calls Try.prog 9 #[] w fun e w' => e = .returned (.bool r) ∧ Drawn0 w w' := by
  have H : ((mix_Mix.f 0).bind fun t103 => (if t103 = 0 then ((mix_Mix.f 1).bind fun t104 => (if t104 = 6238072747940578789 then ((mix_Two.f 0 0).bind fun t105 => (some (t105 == 0))) else (some false))) else (some false))) = some r := h
  clear h
  replace H := Option.bind_eq_some_iff.mp H
  obtain ⟨t103, A10, H⟩ := H
  replace H : (if t103 = 0 then ((mix_Mix.f 1).bind fun t104 => (if t104 = 6238072747940578789 then ((mix_Two.f 0 0).bind fun t105 => (some (t105 == 0))) else (some false))) else (some false)) = some r := H
  have A1 := Aside0.mk A10
  clear A10
  by_cases c2 : t103 = 0
  · rw [if_pos c2] at H
    have c2b0 : (t103 == 0) = true := beq_iff_eq.mpr c2
    have c2b1 : (t103 != 0) = false := bne_eq_false_iff_eq.mpr c2
    clear c2
    replace H := Option.bind_eq_some_iff.mp H
    obtain ⟨t104, A30, H⟩ := H
    replace H : (if t104 = 6238072747940578789 then ((mix_Two.f 0 0).bind fun t105 => (some (t105 == 0))) else (some false)) = some r := H
    have A3 := Aside0.mk A30
    clear A30
    by_cases c4 : t104 = 6238072747940578789
    · rw [if_pos c4] at H
      have c4b0 : (t104 == 6238072747940578789) = true := beq_iff_eq.mpr c4
      have c4b1 : (t104 != 6238072747940578789) = false := bne_eq_false_iff_eq.mpr c4
      clear c4
      replace H := Option.bind_eq_some_iff.mp H
      obtain ⟨t105, A50, H⟩ := H
      replace H : (some (t105 == 0)) = some r := H
      have A5 := Aside0.mk A50
      clear A50
      obtain rfl := Option.some.inj H
      go_enter Try.func9, Try.ntmps9
      go_wp2_with (first | ((with_reducible refine gate_callee (f := 10) rfl ?_); refine goesL_ (some 1) rfl rfl Try.func10 (by kernel_rfl) rfl #[.int .u64 0] rfl (by (try simp only [List.map_toArray, List.map_cons, List.map_nil]); first | done | rfl | (simp only [List.length_drop, List.length_take]; rfl)) ?_; (with_reducible refine (mix_Mix.calls 0 t103 _ A1.out).mono ?_); rintro e w' ⟨rfl, ⟨nd, rfl⟩⟩; refine ⟨_, rfl, ?_⟩) | (go_at_call 10; (with_reducible refine (mix_Mix.calls 1 t104 _ A3.out).mono ?_); rintro e w' ⟨rfl, ⟨nd, rfl⟩⟩) | (go_at_call 12; (with_reducible refine (mix_Two.calls 0 0 t105 _ A5.out).mono ?_); rintro e w' ⟨rfl, ⟨nd, rfl⟩⟩))
      go_ret
      exact ⟨by first | rfl | (simp; done) | (simp [*]; done), by repeat (first | exact Drawn0.refl _ | apply Drawn0.step)⟩
    · rw [if_neg c4] at H
      have c4b0 : (t104 == 6238072747940578789) = false := beq_eq_false_iff_ne.mpr c4
      have c4b1 : (t104 != 6238072747940578789) = true := bne_iff_ne.mpr c4
      obtain rfl := Option.some.inj H
      go_enter Try.func9, Try.ntmps9
      go_wp2_with (first | ((with_reducible refine gate_callee (f := 10) rfl ?_); refine goesL_ (some 1) rfl rfl Try.func10 (by kernel_rfl) rfl #[.int .u64 0] rfl (by (try simp only [List.map_toArray, List.map_cons, List.map_nil]); first | done | rfl | (simp only [List.length_drop, List.length_take]; rfl)) ?_; (with_reducible refine (mix_Mix.calls 0 t103 _ A1.out).mono ?_); rintro e w' ⟨rfl, ⟨nd, rfl⟩⟩; refine ⟨_, rfl, ?_⟩) | (go_at_call 10; (with_reducible refine (mix_Mix.calls 1 t104 _ A3.out).mono ?_); rintro e w' ⟨rfl, ⟨nd, rfl⟩⟩))
      go_ret
      exact ⟨by first | rfl | (simp; done) | (simp [*]; done), by repeat (first | exact Drawn0.refl _ | apply Drawn0.step)⟩
  · rw [if_neg c2] at H
    have c2b0 : (t103 == 0) = false := beq_eq_false_iff_ne.mpr c2
    have c2b1 : (t103 != 0) = true := bne_iff_ne.mpr c2
    obtain rfl := Option.some.inj H
    go_enter Try.func9, Try.ntmps9
    go_wp2_with (first | ((with_reducible refine gate_callee (f := 10) rfl ?_); refine goesL_ (some 1) rfl rfl Try.func10 (by kernel_rfl) rfl #[.int .u64 0] rfl (by (try simp only [List.map_toArray, List.map_cons, List.map_nil]); first | done | rfl | (simp only [List.length_drop, List.length_take]; rfl)) ?_; (with_reducible refine (mix_Mix.calls 0 t103 _ A1.out).mono ?_); rintro e w' ⟨rfl, ⟨nd, rfl⟩⟩; refine ⟨_, rfl, ?_⟩))
    go_ret
    exact ⟨by first | rfl | (simp; done) | (simp [*]; done), by repeat (first | exact Drawn0.refl _ | apply Drawn0.step)⟩

/-! ### tattlerref01_unshift: function 20 -/
def tattlerref01_unshift.l0 : Nat → Int → Int → Int → Int → Option (Int)
  | 0, _, _, _, _ => none
  | k + 1, x0, x1, x5, x6 => if x6 ≥ 0 then (if 0 ≤ x6 then (if (wrap64 (x6 + x1)) < 64 then (if 0 ≤ (wrap64 (x6 + x1)) then (tattlerref01_unshift.l0 k x0 x1 (Go.bits .or .u64 x5 (shl .u64 (Go.bits .xor .u64 (Int.tmod (shr .u64 x0 x6) 2) (Int.tmod (shr .u64 x5 (wrap64 (x6 + x1))) 2)) x6)) (wrap64 (x6 - 1))) else (none)) else (tattlerref01_unshift.l0 k x0 x1 (Go.bits .or .u64 x5 (shl .u64 (Int.tmod (shr .u64 x0 x6) 2) x6)) (wrap64 (x6 - 1)))) else (none)) else (some x5)
def tattlerref01_unshift.f (k : Nat) (a0 : Int) (a1 : Int) : Option (Int) := tattlerref01_unshift.l0 k a0 a1 0 63
theorem tattlerref01_unshift.mono_l : ∀ k, (∀ y0 y1 y2 y3, LeO (tattlerref01_unshift.l0 k y0 y1 y2 y3) (tattlerref01_unshift.l0 (k + 1) y0 y1 y2 y3))
  | 0 => fun _ _ _ _ r h => by simp [tattlerref01_unshift.l0] at h
  | k + 1 => by
    have ih0 := tattlerref01_unshift.mono_l k
    · intro y0 y1 y2 y3
      unfold tattlerref01_unshift.l0
      repeat' first
      | (with_reducible exact ih0 _ _ _ _)
      | (with_reducible exact LeO.refl _)
      | (with_reducible exact LeO.none _)
      | (with_reducible refine LeO.ite ?_ ?_)
      | (with_reducible refine LeO.bind ?_ (fun _ => ?_))
      | exact ih0 _ _ _ _
      | exact LeO.none _
      | refine LeO.ite ?_ ?_
      | refine LeO.bind ?_ (fun _ => ?_)
theorem tattlerref01_unshift.mono : ∀ a0 a1 k, LeO (tattlerref01_unshift.f k a0 a1) (tattlerref01_unshift.f (k + 1) a0 a1) := by
  intro a0 a1 k
  have ih0 := tattlerref01_unshift.mono_l k
  unfold tattlerref01_unshift.f
  repeat' first
      | (with_reducible exact ih0 _ _ _ _)
      | (with_reducible exact LeO.refl _)
      | (with_reducible exact LeO.none _)
      | (with_reducible refine LeO.ite ?_ ?_)
      | (with_reducible refine LeO.bind ?_ (fun _ => ?_))
      | exact ih0 _ _ _ _
      | exact LeO.none _
      | refine LeO.ite ?_ ?_
      | refine LeO.bind ?_ (fun _ => ?_)
set_option maxHeartbeats 8000000 in
set_option maxRecDepth 100000 in
theorem tattlerref01_unshift.calls (k : Nat) (a0 : Int) (a1 : Int) (r : Int) (w : World) (h : tattlerref01_unshift.f k a0 a1 = some r) :
    Calls Try.prog 20 #[.int .u64 a0, .int .i64 a1] w fun e w' => e = .returned (.int .u64 r) ∧ Drawn0 w w' := by
  have H : (tattlerref01_unshift.l0 k a0 a1 0 63) = some r := h
  clear h
  have H' := Aside0.mk H
  clear H
  go_enter Try.func20, Try.ntmps20
  go_wp2
  go_loopg [5, 6] k (fun kq v5 v6 w' => ∃ (x5_1 : Int) (x6_1 : Int), v5 = .int .u64 x5_1 ∧ v6 = .int .i64 x6_1 ∧ Aside0 (tattlerref01_unshift.l0 kq a0 a1 x5_1 x6_1 = some r) ∧ Aside0 (kq ≤ k) ∧ Drawn0 w w')
  case atStart => exact ⟨(0), (63), (by first | rfl | (simp; done) | (simp [*]; done)), (by first | rfl | (simp; done) | (simp [*]; done)), H', ⟨Nat.le_refl _⟩, by repeat (first | exact Drawn0.refl _ | apply Drawn0.step)⟩
  case round =>
    clear H'
    try clear c2
    try clear p2
    obtain ⟨x5_1, x6_1, rfl, rfl, HA, HK1, ⟨m1, rfl⟩⟩ := hrel
    cases gk with
    | zero => exact absurd HA.out (by simp [tattlerref01_unshift.l0])
    | succ k1 =>
      have H := HA.out
      clear HA
      simp only [tattlerref01_unshift.l0] at H
      by_cases c3 : x6_1 ≥ 0
      · rw [if_pos c3] at H
        have c3b0 : decide (0 ≤ x6_1) = true := decide_eq_true c3
        clear c3
        by_cases c4 : 0 ≤ x6_1
        · rw [if_pos c4] at H
          have c4b0 := eq_true c4
          have c4b1 : decide (0 ≤ x6_1) = true := decide_eq_true c4
          clear c4
          obtain ⟨ji5, hji5⟩ : ∃ j_ : Int, (shr .u64 a0 x6_1) = j_ := ⟨_, rfl⟩
          replace H : (if (wrap64 (x6_1 + a1)) < 64 then (if 0 ≤ (wrap64 (x6_1 + a1)) then (tattlerref01_unshift.l0 k1 a0 a1 (Go.bits .or .u64 x5_1 (shl .u64 (Go.bits .xor .u64 (Int.tmod (ji5) 2) (Int.tmod (shr .u64 x5_1 (wrap64 (x6_1 + a1))) 2)) x6_1)) (wrap64 (x6_1 - 1))) else (none)) else (tattlerref01_unshift.l0 k1 a0 a1 (Go.bits .or .u64 x5_1 (shl .u64 (Int.tmod (ji5) 2) x6_1)) (wrap64 (x6_1 - 1)))) = some r := by first | (rw [hji5] at H; exact H) | (simp only [hji5] at H ⊢; exact H)
          have hji5_ : (a0 / 2 ^ min x6_1.toNat 64) = ji5 := hji5
          have hji5z : x6_1 ≤ 64 → (a0 / 2 ^ x6_1.toNat) = ji5 := shr_small hji5
          by_cases c6 : (wrap64 (x6_1 + a1)) < 64
          · rw [if_pos c6] at H
            have c6b0 : decide ((wrap64 (x6_1 + a1)) < 64) = true := decide_eq_true c6
            clear c6
            obtain ⟨ji7, hji7⟩ : ∃ j_ : Int, (wrap64 (x6_1 + a1)) = j_ := ⟨_, rfl⟩
            replace H : (if 0 ≤ (ji7) then (tattlerref01_unshift.l0 k1 a0 a1 (Go.bits .or .u64 x5_1 (shl .u64 (Go.bits .xor .u64 (Int.tmod (ji5) 2) (Int.tmod (shr .u64 x5_1 (ji7)) 2)) x6_1)) (wrap64 (x6_1 - 1))) else (none)) = some r := by first | (rw [hji7] at H; exact H) | (simp only [hji7] at H ⊢; exact H)
            (try rw [hji7] at c6b0)
            have hji7w : (IntKind.i64.wrap (x6_1 + a1)) = ji7 := (i64_w _).trans hji7
            by_cases c8 : 0 ≤ (ji7)
            · rw [if_pos c8] at H
              have c8b0 := eq_true c8
              have c8b1 : decide (0 ≤ (ji7)) = true := decide_eq_true c8
              clear c8
              obtain ⟨ji9, hji9⟩ : ∃ j_ : Int, (shr .u64 x5_1 (ji7)) = j_ := ⟨_, rfl⟩
              replace H : (tattlerref01_unshift.l0 k1 a0 a1 (Go.bits .or .u64 x5_1 (shl .u64 (Go.bits .xor .u64 (Int.tmod (ji5) 2) (Int.tmod (ji9) 2)) x6_1)) (wrap64 (x6_1 - 1))) = some r := by first | (rw [hji9] at H; exact H) | (simp only [hji9] at H ⊢; exact H)
              have hji9_ : (x5_1 / 2 ^ min (ji7).toNat 64) = ji9 := hji9
              have hji9z : (ji7) ≤ 64 → (x5_1 / 2 ^ (ji7).toNat) = ji9 := shr_small hji9
              have c10b0 := eq_true (of_decide_eq_true (by first | (with_reducible assumption) | assumption) : 0 ≤ x6_1)
              obtain ⟨ji11, hji11⟩ : ∃ j_ : Int, (shl .u64 (Go.bits .xor .u64 (Int.tmod (ji5) 2) (Int.tmod (ji9) 2)) x6_1) = j_ := ⟨_, rfl⟩
              replace H : (tattlerref01_unshift.l0 k1 a0 a1 (Go.bits .or .u64 x5_1 (ji11)) (wrap64 (x6_1 - 1))) = some r := by first | (rw [hji11] at H; exact H) | (simp only [hji11] at H ⊢; exact H)
              have hji11_ : (IntKind.u64.wrap ((Go.bits .xor .u64 (Int.tmod (ji5) 2) (Int.tmod (ji9) 2)) * 2 ^ min x6_1.toNat 64)) = ji11 := hji11
              have hji11z : x6_1 ≤ 64 → (IntKind.u64.wrap ((Go.bits .xor .u64 (Int.tmod (ji5) 2) (Int.tmod (ji9) 2)) * 2 ^ x6_1.toNat)) = ji11 := shl_small hji11
              have H' := Aside0.mk H
              clear H
              go_wp2
              go_roundg k1
              case measure => have := HK1.out; omega
              case rel => exact ⟨(Go.bits .or .u64 x5_1 (ji11)), (wrap64 (x6_1 - 1)), (by first | rfl | (simp; done) | (simp only [← hji11] <;> (first | rfl | simp)) | (simp [*]; done)), (by first | rfl | (simp; done) | (simp [*]; done)), H', ⟨by have := HK1.out; omega⟩, by repeat (first | exact Drawn0.refl _ | apply Drawn0.step)⟩
            · rw [if_neg c8] at H
              exact absurd H (by simp)
          · rw [if_neg c6] at H
            have c6b0 : decide ((wrap64 (x6_1 + a1)) < 64) = false := decide_eq_false c6
            clear c6
            have c12b0 := eq_true (of_decide_eq_true (by first | (with_reducible assumption) | assumption) : 0 ≤ x6_1)
            obtain ⟨ji13, hji13⟩ : ∃ j_ : Int, (shl .u64 (Int.tmod (ji5) 2) x6_1) = j_ := ⟨_, rfl⟩
            replace H : (tattlerref01_unshift.l0 k1 a0 a1 (Go.bits .or .u64 x5_1 (ji13)) (wrap64 (x6_1 - 1))) = some r := by first | (rw [hji13] at H; exact H) | (simp only [hji13] at H ⊢; exact H)
            have hji13_ : (IntKind.u64.wrap ((Int.tmod (ji5) 2) * 2 ^ min x6_1.toNat 64)) = ji13 := hji13
            have hji13z : x6_1 ≤ 64 → (IntKind.u64.wrap ((Int.tmod (ji5) 2) * 2 ^ x6_1.toNat)) = ji13 := shl_small hji13
            have H' := Aside0.mk H
            clear H
            go_wp2
            go_roundg k1
            case measure => have := HK1.out; omega
            case rel => exact ⟨(Go.bits .or .u64 x5_1 (ji13)), (wrap64 (x6_1 - 1)), (by first | rfl | (simp; done) | (simp only [← hji13] <;> (first | rfl | simp)) | (simp [*]; done)), (by first | rfl | (simp; done) | (simp [*]; done)), H', ⟨by have := HK1.out; omega⟩, by repeat (first | exact Drawn0.refl _ | apply Drawn0.step)⟩
        · rw [if_neg c4] at H
          exact absurd H (by simp)
      · rw [if_neg c3] at H
        have c3b0 : decide (0 ≤ x6_1) = false := decide_eq_false c3
        clear c3
        obtain rfl := Option.some.inj H
        go_wp2
        go_ret
        exact ⟨by first | rfl | (simp; done) | (simp [*]; done), by repeat (first | exact Drawn0.refl _ | apply Drawn0.step)⟩

/-! ### tattlerref01_Unmix: function 14 -/
def tattlerref01_Unmix.f (k : Nat) (a0 : Int) : Option (Int) := (tattlerref01_unshift.f k a0 31).bind fun t106 => ((tattlerref01_unshift.f k (IntKind.u64.wrap (t106 * 3573116690164977347)) 27).bind fun t107 => ((tattlerref01_unshift.f k (IntKind.u64.wrap (t107 * 10871156337175269513)) 30).bind fun t108 => (some t108)))
theorem tattlerref01_Unmix.mono : ∀ a0 k, LeO (tattlerref01_Unmix.f k a0) (tattlerref01_Unmix.f (k + 1) a0) := by
  intro a0 k
  unfold tattlerref01_Unmix.f
  repeat' first
      | (with_reducible exact tattlerref01_unshift.mono _ _ _)
      | (with_reducible exact LeO.refl _)
      | (with_reducible exact LeO.none _)
      | (with_reducible refine LeO.ite ?_ ?_)
      | (with_reducible refine LeO.bind ?_ (fun _ => ?_))
      | exact tattlerref01_unshift.mono _ _ _
      | exact LeO.none _
      | refine LeO.ite ?_ ?_
      | refine LeO.bind ?_ (fun _ => ?_)
set_option maxHeartbeats 8000000 in
set_option maxRecDepth 100000 in
theorem tattlerref01_Unmix.calls (k : Nat) (a0 : Int) (r : Int) (w : World) (h : tattlerref01_Unmix.f k a0 = some r) :
    Calls Try.prog 14 #[.int .u64 a0] w fun e w' => e = .returned (.int .u64 r) ∧ Drawn0 w w' := by
  have H : ((tattlerref01_unshift.f k a0 31).bind fun t106 => ((tattlerref01_unshift.f k (IntKind.u64.wrap (t106 * 3573116690164977347)) 27).bind fun t107 => ((tattlerref01_unshift.f k (IntKind.u64.wrap (t107 * 10871156337175269513)) 30).bind fun t108 => (some t108)))) = some r := h
  clear h
  replace H := Option.bind_eq_some_iff.mp H
  obtain ⟨t106, A20, H⟩ := H
  replace H : ((tattlerref01_unshift.f k (IntKind.u64.wrap (t106 * 3573116690164977347)) 27).bind fun t107 => ((tattlerref01_unshift.f k (IntKind.u64.wrap (t107 * 10871156337175269513)) 30).bind fun t108 => (some t108))) = some r := H
  have A2 := Aside0.mk A20
  clear A20
  replace H := Option.bind_eq_some_iff.mp H
  obtain ⟨t107, A30, H⟩ := H
  replace H : ((tattlerref01_unshift.f k (IntKind.u64.wrap (t107 * 10871156337175269513)) 30).bind fun t108 => (some t108)) = some r := H
  have A3 := Aside0.mk A30
  clear A30
  replace H := Option.bind_eq_some_iff.mp H
  obtain ⟨t108, A40, H⟩ := H
  replace H : (some t108) = some r := H
  have A4 := Aside0.mk A40
  clear A40
  obtain rfl := Option.some.inj H
  go_enter Try.func14, Try.ntmps14
  go_wp2_with (first | ((with_reducible refine gate_callee (f := 20) rfl ?_); refine goesL_ (some 6) rfl rfl Try.func20 (by kernel_rfl) rfl #[.int .u64 a0, .int .i64 31] rfl (by (try simp only [List.map_toArray, List.map_cons, List.map_nil]); first | done | rfl | (simp only [List.length_drop, List.length_take]; rfl)) ?_; (with_reducible refine (tattlerref01_unshift.calls k a0 31 t106 _ A2.out).mono ?_); rintro e w' ⟨rfl, ⟨nd, rfl⟩⟩; refine ⟨_, rfl, ?_⟩) | ((with_reducible refine gate_callee (f := 20) rfl ?_); refine goesL_ (some 9) rfl rfl Try.func20 (by kernel_rfl) rfl #[.int .u64 (IntKind.u64.wrap (t106 * 3573116690164977347)), .int .i64 27] rfl (by (try simp only [List.map_toArray, List.map_cons, List.map_nil]); first | done | rfl | (simp only [List.length_drop, List.length_take]; rfl)) ?_; (with_reducible refine (tattlerref01_unshift.calls k (IntKind.u64.wrap (t106 * 3573116690164977347)) 27 t107 _ A3.out).mono ?_); rintro e w' ⟨rfl, ⟨nd, rfl⟩⟩; refine ⟨_, rfl, ?_⟩) | ((with_reducible refine gate_callee (f := 20) rfl ?_); refine goesL_ (some 12) rfl rfl Try.func20 (by kernel_rfl) rfl #[.int .u64 (IntKind.u64.wrap (t107 * 10871156337175269513)), .int .i64 30] rfl (by (try simp only [List.map_toArray, List.map_cons, List.map_nil]); first | done | rfl | (simp only [List.length_drop, List.length_take]; rfl)) ?_; (with_reducible refine (tattlerref01_unshift.calls k (IntKind.u64.wrap (t107 * 10871156337175269513)) 30 t108 _ A4.out).mono ?_); rintro e w' ⟨rfl, ⟨nd, rfl⟩⟩; refine ⟨_, rfl, ?_⟩))
  go_ret
  exact ⟨by first | rfl | (simp; done) | (simp [*]; done), by repeat (first | exact Drawn0.refl _ | apply Drawn0.step)⟩

/-! ### tattlerlaw01_MixBack: function 5 -/
def tattlerlaw01_MixBack.f (k : Nat) (a0 : Int) : Option (Bool) := (tattlerlaw01_fixed.f).bind fun t109 => (if t109 = true then ((mix_Mix.f a0).bind fun t110 => ((tattlerref01_Unmix.f k t110).bind fun t111 => (if t111 = a0 then ((tattlerref01_Unmix.f k a0).bind fun t112 => ((mix_Mix.f t112).bind fun t113 => (some (t113 == a0)))) else (some false)))) else (some false))
theorem tattlerlaw01_MixBack.mono : ∀ a0 k, LeO (tattlerlaw01_MixBack.f k a0) (tattlerlaw01_MixBack.f (k + 1) a0) := by
  intro a0 k
  unfold tattlerlaw01_MixBack.f
  repeat' first
      | (with_reducible exact tattlerref01_Unmix.mono _ _)
      | (with_reducible exact LeO.refl _)
      | (with_reducible exact LeO.none _)
      | (with_reducible refine LeO.ite ?_ ?_)
      | (with_reducible refine LeO.bind ?_ (fun _ => ?_))
      | exact tattlerref01_Unmix.mono _ _
      | exact LeO.none _
      | refine LeO.ite ?_ ?_
      | refine LeO.bind ?_ (fun _ => ?_)
set_option maxHeartbeats 8000000 in
set_option maxRecDepth 100000 in
theorem tattlerlaw01_MixBack.calls (k : Nat) (a0 : Int) (r : Bool) (w : World) (h : tattlerlaw01_MixBack.f k a0 = some r) :
    Calls Try.prog 5 #[.int .u64 a0] w fun e w' => e = .returned (.bool r) ∧ Drawn0 w w' := by
  have H : ((tattlerlaw01_fixed.f).bind fun t109 => (if t109 = true then ((mix_Mix.f a0).bind fun t110 => ((tattlerref01_Unmix.f k t110).bind fun t111 => (if t111 = a0 then ((tattlerref01_Unmix.f k a0).bind fun t112 => ((mix_Mix.f t112).bind fun t113 => (some (t113 == a0)))) else (some false)))) else (some false))) = some r := h
  clear h
  replace H := Option.bind_eq_some_iff.mp H
  obtain ⟨t109, A20, H⟩ := H
  replace H : (if t109 = true then ((mix_Mix.f a0).bind fun t110 => ((tattlerref01_Unmix.f k t110).bind fun t111 => (if t111 = a0 then ((tattlerref01_Unmix.f k a0).bind fun t112 => ((mix_Mix.f t112).bind fun t113 => (some (t113 == a0)))) else (some false)))) else (some false)) = some r := H
  have A2 := Aside0.mk A20
  clear A20
  by_cases c3 : t109 = true
  · subst c3
    have H1 : ((mix_Mix.f a0).bind fun t110 => ((tattlerref01_Unmix.f k t110).bind fun t111 => (if t111 = a0 then ((tattlerref01_Unmix.f k a0).bind fun t112 => ((mix_Mix.f t112).bind fun t113 => (some (t113 == a0)))) else (some false)))) = some r := by rw [if_pos rfl] at H; exact H
    clear H
    have H := H1
    clear H1
    replace H := Option.bind_eq_some_iff.mp H
    obtain ⟨t110, A40, H⟩ := H
    replace H : ((tattlerref01_Unmix.f k t110).bind fun t111 => (if t111 = a0 then ((tattlerref01_Unmix.f k a0).bind fun t112 => ((mix_Mix.f t112).bind fun t113 => (some (t113 == a0)))) else (some false))) = some r := H
    have A4 := Aside0.mk A40
    clear A40
    replace H := Option.bind_eq_some_iff.mp H
    obtain ⟨t111, A50, H⟩ := H
    replace H : (if t111 = a0 then ((tattlerref01_Unmix.f k a0).bind fun t112 => ((mix_Mix.f t112).bind fun t113 => (some (t113 == a0)))) else (some false)) = some r := H
    have A5 := Aside0.mk A50
    clear A50
    by_cases c6 : t111 = a0
    · rw [if_pos c6] at H
      have c6b0 : (t111 == a0) = true := beq_iff_eq.mpr c6
      have c6b1 : (t111 != a0) = false := bne_eq_false_iff_eq.mpr c6
      clear c6
      replace H := Option.bind_eq_some_iff.mp H
      obtain ⟨t112, A70, H⟩ := H
      replace H : ((mix_Mix.f t112).bind fun t113 => (some (t113 == a0))) = some r := H
      have A7 := Aside0.mk A70
      clear A70
      replace H := Option.bind_eq_some_iff.mp H
      obtain ⟨t113, A80, H⟩ := H
      replace H : (some (t113 == a0)) = some r := H
      have A8 := Aside0.mk A80
      clear A80
      obtain rfl := Option.some.inj H
      go_enter Try.func5, Try.ntmps5
      go_wp2_with (first | ((with_reducible refine gate_callee (f := 9) rfl ?_); refine goesL_ (some 3) rfl rfl Try.func9 (by kernel_rfl) rfl #[] rfl (by (try simp only [List.map_toArray, List.map_cons, List.map_nil]); first | done | rfl | (simp only [List.length_drop, List.length_take]; rfl)) ?_; (with_reducible refine (tattlerlaw01_fixed.calls  true _ A2.out).mono ?_); rintro e w' ⟨rfl, ⟨nd, rfl⟩⟩; refine ⟨_, rfl, ?_⟩) | (go_at_call 10; (with_reducible refine (mix_Mix.calls a0 t110 _ A4.out).mono ?_); rintro e w' ⟨rfl, ⟨nd, rfl⟩⟩) | (go_at_call 14; (with_reducible refine (tattlerref01_Unmix.calls k t110 t111 _ A5.out).mono ?_); rintro e w' ⟨rfl, ⟨nd, rfl⟩⟩) | (go_at_call 14; (with_reducible refine (tattlerref01_Unmix.calls k a0 t112 _ A7.out).mono ?_); rintro e w' ⟨rfl, ⟨nd, rfl⟩⟩) | (go_at_call 10; (with_reducible refine (mix_Mix.calls t112 t113 _ A8.out).mono ?_); rintro e w' ⟨rfl, ⟨nd, rfl⟩⟩))
      go_ret
      exact ⟨by first | rfl | (simp; done) | (simp [*]; done), by repeat (first | exact Drawn0.refl _ | apply Drawn0.step)⟩
    · rw [if_neg c6] at H
      have c6b0 : (t111 == a0) = false := beq_eq_false_iff_ne.mpr c6
      have c6b1 : (t111 != a0) = true := bne_iff_ne.mpr c6
      obtain rfl := Option.some.inj H
      go_enter Try.func5, Try.ntmps5
      go_wp2_with (first | ((with_reducible refine gate_callee (f := 9) rfl ?_); refine goesL_ (some 3) rfl rfl Try.func9 (by kernel_rfl) rfl #[] rfl (by (try simp only [List.map_toArray, List.map_cons, List.map_nil]); first | done | rfl | (simp only [List.length_drop, List.length_take]; rfl)) ?_; (with_reducible refine (tattlerlaw01_fixed.calls  true _ A2.out).mono ?_); rintro e w' ⟨rfl, ⟨nd, rfl⟩⟩; refine ⟨_, rfl, ?_⟩) | (go_at_call 10; (with_reducible refine (mix_Mix.calls a0 t110 _ A4.out).mono ?_); rintro e w' ⟨rfl, ⟨nd, rfl⟩⟩) | (go_at_call 14; (with_reducible refine (tattlerref01_Unmix.calls k t110 t111 _ A5.out).mono ?_); rintro e w' ⟨rfl, ⟨nd, rfl⟩⟩))
      go_ret
      exact ⟨by first | rfl | (simp; done) | (simp [*]; done), by repeat (first | exact Drawn0.refl _ | apply Drawn0.step)⟩
  · replace c3 := Bool.eq_false_iff.mpr c3
    subst c3
    have H1 : (some false) = some r := by rw [if_neg (show ¬ (false = true) by decide)] at H; exact H
    clear H
    have H := H1
    clear H1
    obtain rfl := Option.some.inj H
    go_enter Try.func5, Try.ntmps5
    go_wp2_with (first | ((with_reducible refine gate_callee (f := 9) rfl ?_); refine goesL_ (some 3) rfl rfl Try.func9 (by kernel_rfl) rfl #[] rfl (by (try simp only [List.map_toArray, List.map_cons, List.map_nil]); first | done | rfl | (simp only [List.length_drop, List.length_take]; rfl)) ?_; (with_reducible refine (tattlerlaw01_fixed.calls  false _ A2.out).mono ?_); rintro e w' ⟨rfl, ⟨nd, rfl⟩⟩; refine ⟨_, rfl, ?_⟩))
    go_ret
    exact ⟨by first | rfl | (simp; done) | (simp [*]; done), by repeat (first | exact Drawn0.refl _ | apply Drawn0.step)⟩

/-- THE ONE PURE STATEMENT of tattlerlaw01_MixBack: yours. -/
def tattlerlaw01_MixBack.Pure : Prop := ∀ (a0 : Int), (Lit.int .u64 a0).wf = true → ∃ k, tattlerlaw01_MixBack.f k a0 = some true
theorem tattlerlaw01_MixBack.walk (P : tattlerlaw01_MixBack.Pure) (a0 : Int) (w : World) (w0 : (Lit.int .u64 a0).wf = true) :
    Calls Try.prog 5 #[.int .u64 a0] w fun e w' => e = .returned (.bool true) ∧ Below w.heap.size w w' := by
  obtain ⟨k, h⟩ := P a0 w0
  refine (tattlerlaw01_MixBack.calls k a0 true w h).mono ?_
  rintro e w' ⟨rfl, hd⟩
  exact ⟨rfl, hd.below⟩

end Go.Proofs.Ytgbdgogeofbaoaa.PMixBack
