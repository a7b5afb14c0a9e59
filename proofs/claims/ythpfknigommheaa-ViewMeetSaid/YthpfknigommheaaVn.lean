/- The walk of ViewMeet. Conditions: the rows lie as Go's slices do. -/
import Derived.Test.YthpfknigommheaaVm
namespace Go.Proofs.Ythpfknigommheaa
open Go.RowKit Go.ChangeShapes Go.WideShapes Go.ChangeAt Go.Deep PViewTells Go.Proofs.YthpfknigommheaaW.PrintWords

set_option maxRecDepth 100000 in
set_option maxHeartbeats 4000000 in
theorem viewMeet_some (A : Option Addr) (c : Nat) (xs : List S33) (A2 : Option Addr) (c2 : Nat) (ys : List S33) (s1 s2 : Int) (w : World) (hx : MemA w A c xs) (hy : MemA w A2 c2 ys) (h1 : xs.length ≤ 9223372036854775807)
    (ho : ∀ x ∈ xs, ok33 x) (hn : ∀ x ∈ ys, ok33 x) :
    Calls Try.prog 7 #[.slice A xs.length c, .slice A2 ys.length c2, .int .u8 s1, .int .u8 s2] w fun e w' => TruePost w e w' := by
  have HX := Lib.hid hx
  have HY := Lib.hid hy
  have HO := Lib.hid ho
  have HN := Lib.hid hn
  have hgr := Lib.hid (great_nil A c xs w hx h1)
  clear hx hy ho hn h1
  go_enter Try.func7, Try.ntmps7
  go_wp2_with fail
  refine (hgr.out).mono ?_
  rintro e w1 ⟨rfl, hb1⟩
  have HB1 := Lib.hid hb1
  clear hb1 hgr
  by_cases hx64 : 64 < xs.length
  · rw [decide_eq_true hx64]
    go_wp2_with fail
    refine (fixed_any w1).mono ?_
    rintro e w2 ⟨rfl, hb2⟩
    have HB2 := Lib.hid (HB1.out.trans (hb2.mono HB1.out.size))
    clear hb2 HB1
    go_wp2_with fail
    go_ret
    exact ⟨rfl, HB2.out⟩
  · rw [decide_eq_false hx64]
    have hx64' : xs.length ≤ 64 := Nat.le_of_not_lt hx64
    clear hx64
    by_cases hlen : xs.length = ys.length
    · have HL := Lib.hid hlen
      clear hlen
      rw [← HL.out]
      go_wp2_with fail
      go_loopw [27] (fun i wr => ∃ k : Nat, k ≤ xs.length ∧ i = .int .i64 k ∧ (∀ (i : Nat) (m y : S33), i < k → xs[i]? = some m → ys[i]? = some y → fine m ∧ fine y) ∧ Below w1.heap.size w1 wr) (fun i _ => xs.length - (intOf i).toNat)
      case atStart => exact ⟨0, Nat.zero_le _, rfl, fun i m y h => absurd h (Nat.not_lt_zero _), Below.refl _ _⟩
      case round =>
        obtain ⟨k, hk, rfl, hinv, hb⟩ := hrel
        by_cases hlt : k < xs.length
        · obtain ⟨m, hm⟩ : ∃ m, xs[k]? = some m := ⟨_, List.getElem?_eq_getElem hlt⟩
          obtain ⟨y, hy⟩ : ∃ y, ys[k]? = some y := ⟨_, List.getElem?_eq_getElem (by rw [← HL.out]; exact hlt)⟩
          obtain ⟨ga, oa, ea, a0, a1⟩ := (HX.out.below (HB1.out.trans (hb.mono HB1.out.size))).row k m hm
          obtain ⟨gb, ob, eb, b0, b1⟩ := (HY.out.below (HB1.out.trans (hb.mono HB1.out.size))).row k y hy
          subst ea
          subst eb
          have hkz : (0 : Int) ≤ (k : Int) := by omega
          have hkn : (k : Int) < (xs.length : Int) := by omega
          have HBW := Lib.hid hb
          have HBA := Lib.hid (HB1.out.trans (hb.mono HB1.out.size))
          have HM := Lib.hid hm
          have HYK := Lib.hid hy
          clear hm hy hb a1 b1
          by_cases q1 : m.f0 < 1
          · have d1 : decide (m.f0 < 1) = true := decide_eq_true q1
            clear hinv
            go_wp2_with fail
            refine (fixed_any _).mono ?_
            rintro e w9 ⟨rfl, hb9⟩
            have HB9 := Lib.hid (HBA.out.trans (hb9.mono HBA.out.size))
            clear hb9
            go_wp2_with fail
            go_ret
            exact ⟨rfl, HB9.out⟩
          have d1 : decide (m.f0 < 1) = false := decide_eq_false q1
          by_cases q2 : 4 < m.f0
          · have d2 : decide (4 < m.f0) = true := decide_eq_true q2
            clear hinv q1
            go_wp2_with fail
            refine (fixed_any _).mono ?_
            rintro e w9 ⟨rfl, hb9⟩
            have HB9 := Lib.hid (HBA.out.trans (hb9.mono HBA.out.size))
            clear hb9
            go_wp2_with fail
            go_ret
            exact ⟨rfl, HB9.out⟩
          have d2 : decide (4 < m.f0) = false := decide_eq_false q2
          by_cases q3 : y.f0 < 1
          · have d3 : decide (y.f0 < 1) = true := decide_eq_true q3
            clear hinv q1 q2
            go_wp2_with fail
            refine (fixed_any _).mono ?_
            rintro e w9 ⟨rfl, hb9⟩
            have HB9 := Lib.hid (HBA.out.trans (hb9.mono HBA.out.size))
            clear hb9
            go_wp2_with fail
            go_ret
            exact ⟨rfl, HB9.out⟩
          have d3 : decide (y.f0 < 1) = false := decide_eq_false q3
          by_cases q4 : 4 < y.f0
          · have d4 : decide (4 < y.f0) = true := decide_eq_true q4
            clear hinv q1 q2 q3
            go_wp2_with fail
            refine (fixed_any _).mono ?_
            rintro e w9 ⟨rfl, hb9⟩
            have HB9 := Lib.hid (HBA.out.trans (hb9.mono HBA.out.size))
            clear hb9
            go_wp2_with fail
            go_ret
            exact ⟨rfl, HB9.out⟩
          have d4 : decide (4 < y.f0) = false := decide_eq_false q4
          have hinv2 : ∀ (i : Nat) (m' y' : S33), i < k + 1 → xs[i]? = some m' → ys[i]? = some y' → fine m' ∧ fine y' := fun i m' y' hi hm' hy' => by
            by_cases e : i = k
            · subst e
              rw [HM.out] at hm'
              rw [HYK.out] at hy'
              cases hm'
              cases hy'
              exact ⟨⟨by omega, by omega⟩, ⟨by omega, by omega⟩⟩
            · exact hinv i m' y' (by omega) hm' hy'
          have HI := Lib.hid hinv2
          clear hinv hinv2 q1 q2 q3 q4
          go_wp2_with fail
          go_roundw
          case rel => exact ⟨k + 1, by omega, by go_num, HI.out, HBW.out⟩
          case measure => simp [intOf]; omega
        · obtain ⟨wo, hwo⟩ : ∃ wo, wo = wr := ⟨_, rfl⟩
          rw [← hwo] at hb ⊢
          have hinv2 : ∀ (i : Nat) (m y : S33), xs[i]? = some m → ys[i]? = some y → fine m ∧ fine y := fun i m y hm hy => hinv i m y (by have := (List.getElem?_eq_some_iff.1 hm).1; omega) hm hy
          have HI := Lib.hid hinv2
          have HB3 := Lib.hid (HB1.out.trans (hb.mono HB1.out.size))
          have hkn : ¬ (k : Int) < (xs.length : Int) := by omega
          have hy64' : ys.length ≤ 64 := by rw [← HL.out]; exact hx64'
          have hally := all16_any A2 c2 ys wo (HY.out.below HB3.out).row HY.out.cap (by omega)
          obtain ⟨LY, hLY⟩ : ∃ LY, LY = allL ys ys.length := ⟨_, rfl⟩
          obtain ⟨LX, hLX⟩ : ∃ LX, LX = allL xs xs.length := ⟨_, rfl⟩
          have hLYl : LY.length = ys.length := by rw [hLY, allL_len]
          have hLXl : LX.length = xs.length := by rw [hLX, allL_len]
          have hLYo : ∀ x ∈ LY, ok36 x := by rw [hLY]; exact allL_ok HN.out hy64'
          have hLXo : ∀ x ∈ LX, ok36 x := by rw [hLX]; exact allL_ok HO.out hx64'
          have hV := heard_all s1 xs ys ys.length hy64'
          have hW := heard_all s2 ys xs xs.length hx64'
          obtain ⟨V, chV, hVe⟩ : ∃ V chV, heard s1 xs LY = (V, chV) := ⟨_, _, rfl⟩
          obtain ⟨Y, chY, hYe⟩ : ∃ Y chY, heard s2 ys LX = (Y, chY) := ⟨_, _, rfl⟩
          have hVe' : heardFrom s1 (xs, []) LY = (V, chV) := hVe
          have hYe' : heardFrom s2 (ys, []) LX = (Y, chY) := hYe
          rw [← hLY, hVe'] at hV
          rw [← hLX, hYe'] at hW
          rw [← hLY, ← HL.out] at hally
          have hVl : V.length = xs.length := hV.1
          have hYl : Y.length = xs.length := hW.1.trans HL.out.symm
          have HALLY := Lib.hid hally
          have HV := Lib.hid hV.2
          have HW := Lib.hid hW.2
          have HLYL := Lib.hid hLYl
          have HLXL := Lib.hid hLXl
          have HLYO := Lib.hid hLYo
          have HLXO := Lib.hid hLXo
          have HVE := Lib.hid hVe
          have HYE := Lib.hid hYe
          have HVL := Lib.hid hVl
          have HYL := Lib.hid hYl
          have HLX := Lib.hid hLX
          clear hb hwo hlt hk hinv hinv2 hally hV hW hVe hYe hVe' hYe' hLY hLX hLYl hLXl hLYo hLXo hVl hYl
          go_wp2_with fail
          refine (HALLY.out).mono ?_
          rintro e w4 ⟨vn, rfl, hvn, hb4⟩
          obtain ⟨An, cn, rfl, hna⟩ := hvn.arg
          have HB4 := Lib.hid (HB3.out.trans (hb4.mono HB3.out.size))
          have hh := hear_any A c xs s1 An cn LY w4 (HX.out.below HB4.out) (by omega) hna (by rw [HLYL.out]; omega) HO.out HLYO.out
          rw [HVE.out] at hh
          have HH := Lib.hid hh
          clear hvn hna hb4 HALLY HB3 hh
          go_wp2_with fail
          refine (HH.out).mono ?_
          rintro e w5 ⟨vx, vc, rfl, hvx, hvc, hb5⟩
          obtain ⟨Ax, cx, rfl, hxa⟩ := hvx.arg
          obtain ⟨Ac, cc, rfl, _⟩ := hvc.arg
          have hxa' := hxa
          rw [HVL.out]
          have HXA := Lib.hid hxa'
          have HB5 := Lib.hid (HB4.out.trans (hb5.mono HB4.out.size))
          clear hvx hvc hxa hxa' hb5 HH HB4
          have hallx := all16_any A c xs w5 (HX.out.below HB5.out).row HX.out.cap (by omega)
          rw [← HLX.out] at hallx
          have HALLX := Lib.hid hallx
          clear hallx
          go_wp2_with fail
          refine (HALLX.out).mono ?_
          rintro e w6 ⟨vn, rfl, hvn, hb6⟩
          obtain ⟨Am, cm, rfl, hna⟩ := hvn.arg
          have HB6 := Lib.hid (HB5.out.trans (hb6.mono HB5.out.size))
          have HXA6 := Lib.hid (HXA.out.below hb6)
          have hh := hear_any A2 c2 ys s2 Am cm LX w6 (HY.out.below HB6.out) (by omega) hna (by rw [HLXL.out]; omega) HN.out HLXO.out
          rw [HYE.out, ← HL.out] at hh
          have HH := Lib.hid hh
          clear hvn hna hb6 HALLX HB5 HXA hh
          go_wp2_with fail
          refine (HH.out).mono ?_
          rintro e w7 ⟨vy, vd, rfl, hvy, hvd, hb7⟩
          obtain ⟨Ay, cy, rfl, hya⟩ := hvy.arg
          obtain ⟨Ad, cd, rfl, _⟩ := hvd.arg
          rw [HYL.out]
          have HYA := Lib.hid hya
          have HXA7 := Lib.hid (HXA6.out.below hb7)
          have HB7 := Lib.hid (HB6.out.trans (hb7.mono HB6.out.size))
          clear hvy hvd hya hb7 HH HB6 HXA6
          go_wp2_with fail
          go_loopw [80] (fun i wr => ∃ q : Nat, q ≤ xs.length ∧ i = .int .i64 q ∧ Below w7.heap.size w7 wr) (fun i _ => xs.length - (intOf i).toNat)
          case atStart => exact ⟨0, Nat.zero_le _, rfl, Below.refl _ _⟩
          case round =>
            obtain ⟨q, hq, rfl, hb⟩ := hrel
            by_cases hlt : q < xs.length
            · obtain ⟨m, hm⟩ : ∃ m, xs[q]? = some m := ⟨_, List.getElem?_eq_getElem hlt⟩
              obtain ⟨y, hy⟩ : ∃ y, ys[q]? = some y := ⟨_, List.getElem?_eq_getElem (by rw [← HL.out]; exact hlt)⟩
              have hVq := HV.out q m hm
              have hYq := HW.out q y hy
              rw [if_pos (by rw [← HL.out]; exact hlt), rd_at hy] at hVq
              rw [if_pos hlt, rd_at hm] at hYq
              obtain ⟨ga, oa, ea, a0, a1⟩ := (HXA7.out.below hb).row q _ hVq
              obtain ⟨gb, ob, eb, b0, b1⟩ := (HYA.out.below hb).row q _ hYq
              subst ea
              subst eb
              have hfine := HI.out q m y hm hy
              have HB := Lib.hid hb
              have hqz : (0 : Int) ≤ (q : Int) := by omega
              have hqn : (q : Int) < (xs.length : Int) := by omega
              have hw8 : IntKind.u8.wrap (q : Int) = (q : Int) := by rw [IntKind.wrap_u8]; omega
              by_cases hs1 : (q : Int) = s1
              · have e1 : ((q : Int) == s1) = true := by rw [beq_iff_eq]; exact hs1
                have e2 : ((q : Int) != s1) = false := by rw [bne, e1]; rfl
                clear hm hy hVq hYq hb hs1 hfine a0 a1 b0 b1
                go_wp2_with fail
                go_quiet (fail)
                go_wp2_with fail
                go_roundw
                case rel => exact ⟨q + 1, by omega, by go_num, below_drewN HB.out nq⟩
                case measure => simp [intOf]; omega
              · have e1 : ((q : Int) == s1) = false := beq_eq_false_iff_ne.2 hs1
                have e2 : ((q : Int) != s1) = true := by rw [bne, e1]; rfl
                by_cases hs2 : (q : Int) = s2
                · have e3 : ((q : Int) == s2) = true := by rw [beq_iff_eq]; exact hs2
                  have e4 : ((q : Int) != s2) = false := by rw [bne, e3]; rfl
                  clear hm hy hVq hYq hb hs1 hs2 hfine a0 a1 b0 b1
                  go_wp2_with fail
                  go_quiet (fail)
                  go_wp2_with fail
                  go_roundw
                  case rel => exact ⟨q + 1, by omega, by go_num, below_drewN HB.out nq⟩
                  case measure => simp [intOf]; omega
                · have e3 : ((q : Int) == s2) = false := beq_eq_false_iff_ne.2 hs2
                  have e4 : ((q : Int) != s2) = true := by rw [bne, e3]; rfl
                  rw [e1] at a0 a1
                  rw [e3, ← meet_two hfine.1 hfine.2] at b0 b1
                  obtain ⟨z, hz⟩ : ∃ z, z = hear1 m false y := ⟨_, rfl⟩
                  rw [← hz] at a0 a1 b0 b1
                  have heq := eqA33
                  clear hm hy hVq hYq hb hs1 hs2 hfine hz
                  go_wp2_with fail
                  go_quiet (fail)
                  go_wp2_with fail
                  go_roundw
                  case rel => exact ⟨q + 1, by omega, by go_num, below_drewN HB.out nq⟩
                  case measure => simp [intOf]; omega
            · have hqn : ¬ (q : Int) < (xs.length : Int) := by omega
              have HB8 := Lib.hid (HB7.out.trans (hb.mono HB7.out.size))
              clear hb hlt hq
              go_wp2_with fail
              refine (fixed_any _).mono ?_
              rintro e w9 ⟨rfl, hb9⟩
              have HB9 := Lib.hid (HB8.out.trans (hb9.mono HB8.out.size))
              clear hb9
              go_wp2_with fail
              go_ret
              exact ⟨rfl, HB9.out⟩
    · have hle : ((xs.length : Int) == (ys.length : Int)) = false := beq_eq_false_iff_ne.2 (by omega)
      have hln : ((xs.length : Int) != (ys.length : Int)) = true := by rw [bne, hle]; rfl
      clear hlen
      go_wp2_with fail
      refine (fixed_any w1).mono ?_
      rintro e w2 ⟨rfl, hb2⟩
      have HB2 := Lib.hid (HB1.out.trans (hb2.mono HB1.out.size))
      clear hb2 HB1
      go_wp2_with fail
      go_ret
      exact ⟨rfl, HB2.out⟩
theorem viewMeet_walk (a : Option Addr) (len cap : Nat) (L : List S33) (a2 : Option Addr) (len2 cap2 : Nat) (L2 : List S33) (s1 s2 : Int) (w : World) (hrow : RowOf cells33 2 ok33 w a len cap L) (hr : len * 8 ≤ 140737488351232) (hrow2 : RowOf cells33 2 ok33 w a2 len2 cap2 L2) (_hr2 : len2 * 8 ≤ 140737488351232) (_hs : (Lit.int .u8 s1).wf = true) (_hs2 : (Lit.int .u8 s2).wf = true) :
    Calls Try.prog 7 #[.slice a len cap, .slice a2 len2 cap2, .int .u8 s1, .int .u8 s2] w fun e w' => TruePost w e w' := by
  have hm := memA_of_row hrow
  have hn := memA_of_row hrow2
  have hs := hrow.size
  have hs2 := hrow2.size
  subst hs hs2
  exact viewMeet_some a cap L a2 cap2 L2 s1 s2 w hm hn (by omega) hrow.good hrow2.good
end Go.Proofs.Ythpfknigommheaa
