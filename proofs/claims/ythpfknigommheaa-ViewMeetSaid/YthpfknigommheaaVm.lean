/- The walk of ViewFull. Conditions: the rows lie as Go's slices do. -/
import Derived.Test.YthpfknigommheaaVi
import Derived.Test.YthpfknigommheaaVl
namespace Go.Proofs.Ythpfknigommheaa
open Go.RowKit Go.ChangeShapes Go.WideShapes Go.ChangeAt Go.Deep PViewTells Go.Proofs.YthpfknigommheaaW.PrintWords

theorem ok33_get {xs : List S33} (h : ∀ x ∈ xs, ok33 x) {i : Nat} {x : S33} (hx : xs[i]? = some x) : ok33 x := h x (List.mem_of_getElem? hx)
theorem allL_ok {xs : List S33} (h : ∀ x ∈ xs, ok33 x) (_hl : xs.length ≤ 64) : ∀ x ∈ allL xs xs.length, ok36 x := by
  intro x hx
  obtain ⟨i, hi, rfl⟩ := List.mem_map.1 hx
  rw [List.mem_range] at hi
  refine ⟨⟨by show (0 : Int) ≤ (i : Int) % 256; omega, by show (i : Int) % 256 ≤ 255; omega⟩, ?_⟩
  show ok33 (rd_T33 xs (i : Int))
  rw [rd_at (List.getElem?_eq_getElem hi)]
  exact h _ (List.getElem_mem hi)
set_option maxRecDepth 100000 in
set_option maxHeartbeats 4000000 in
theorem viewFull_some (A : Option Addr) (c : Nat) (xs : List S33) (A2 : Option Addr) (c2 : Nat) (ys : List S33) (self : Int) (w : World) (hx : MemA w A c xs) (hy : MemA w A2 c2 ys) (h1 : xs.length ≤ 9223372036854775807) (h2 : ys.length ≤ 9223372036854775807)
    (ho : ∀ x ∈ xs, ok33 x) (hn : ∀ x ∈ ys, ok33 x) :
    Calls Try.prog 6 #[.slice A xs.length c, .slice A2 ys.length c2, .int .u8 self] w fun e w' => TruePost w e w' := by
  have HX := Lib.hid hx
  have HY := Lib.hid hy
  have HO := Lib.hid ho
  have HN := Lib.hid hn
  have hgr := Lib.hid (great_nil A c xs w hx h1)
  have H2 := Lib.hid h2
  clear hx hy ho hn h1 h2
  go_enter Try.func6, Try.ntmps6
  go_wp2_with fail
  refine (hgr.out).mono ?_
  rintro e w1 ⟨rfl, hb1⟩
  have HB1 := Lib.hid hb1
  clear hb1 hgr
  by_cases hx64 : 64 < xs.length
  · rw [decide_eq_true hx64]
    go_wp2_with fail
    refine (fixed_any w1).mono ?_
    rintro e w2 ⟨rfl, hb2⟩
    have HB2 := Lib.hid (HB1.out.trans (hb2.mono HB1.out.size))
    clear hb2 HB1
    go_wp2_with fail
    go_ret
    exact ⟨rfl, HB2.out⟩
  · rw [decide_eq_false hx64]
    have hgr := Lib.hid (great_nil A2 c2 ys w1 (HY.out.below HB1.out) H2.out)
    go_wp2_with fail
    refine (hgr.out).mono ?_
    rintro e w2 ⟨rfl, hb2⟩
    have HB2 := Lib.hid (HB1.out.trans (hb2.mono HB1.out.size))
    clear hb2 hgr HB1
    by_cases hy64 : 64 < ys.length
    · rw [decide_eq_true hy64]
      go_wp2_with fail
      refine (fixed_any w2).mono ?_
      rintro e w3 ⟨rfl, hb3⟩
      have HB3 := Lib.hid (HB2.out.trans (hb3.mono HB2.out.size))
      clear hb3 HB2
      go_wp2_with fail
      go_ret
      exact ⟨rfl, HB3.out⟩
    · rw [decide_eq_false hy64]
      have hx64' : xs.length ≤ 64 := Nat.le_of_not_lt hx64
      have hy64' : ys.length ≤ 64 := Nat.le_of_not_lt hy64
      clear hx64 hy64
      go_wp2_with fail
      go_loopw [23] (fun i wr => ∃ k : Nat, k ≤ ys.length ∧ i = .int .i64 k ∧ (∀ (i : Nat) (m : S33), i < k → ys[i]? = some m → fine m ∧ m.f1 < 4294967295) ∧ Below w2.heap.size w2 wr) (fun i _ => ys.length - (intOf i).toNat)
      case atStart => exact ⟨0, Nat.zero_le _, rfl, fun i m h => absurd h (Nat.not_lt_zero _), Below.refl _ _⟩
      case round =>
        obtain ⟨k, hk, rfl, hinv, hb⟩ := hrel
        by_cases hlt : k < ys.length
        · obtain ⟨m, hm⟩ : ∃ m, ys[k]? = some m := ⟨_, List.getElem?_eq_getElem hlt⟩
          obtain ⟨ga, oa, ea, a0, a1⟩ := (HY.out.below (HB2.out.trans (hb.mono HB2.out.size))).row k m hm
          subst ea
          have hkz : (0 : Int) ≤ (k : Int) := by omega
          have hkn : (k : Int) < (ys.length : Int) := by omega
          have hba : Below wr.heap.size wr (wr.alloc (.cells #[.int .u8 m.f0, .int .u32 m.f1] 33)) := (Below.refl _ _).alloc (Nat.le_refl _) _
          have HBW := Lib.hid (hb.trans (hba.mono hb.size))
          have HBA := Lib.hid (HB2.out.trans (HBW.out.mono HB2.out.size))
          have HM := Lib.hid hm
          clear hm hb hba
          by_cases c1 : m.f0 < 1
          · skip
            clear hinv
            go_wp2_with fail
            refine (fixed_any _).mono ?_
            rintro e w9 ⟨rfl, hb9⟩
            have HB9 := Lib.hid (HBA.out.trans (hb9.mono HBA.out.size))
            clear hb9
            go_wp2_with fail
            go_ret
            exact ⟨rfl, HB9.out⟩
          by_cases c2 : 4 < m.f0
          · skip
            clear hinv
            go_wp2_with fail
            refine (fixed_any _).mono ?_
            rintro e w9 ⟨rfl, hb9⟩
            have HB9 := Lib.hid (HBA.out.trans (hb9.mono HBA.out.size))
            clear hb9
            go_wp2_with fail
            go_ret
            exact ⟨rfl, HB9.out⟩
          by_cases c3 : 4294967295 ≤ m.f1
          · skip
            clear hinv
            go_wp2_with fail
            refine (fixed_any _).mono ?_
            rintro e w9 ⟨rfl, hb9⟩
            have HB9 := Lib.hid (HBA.out.trans (hb9.mono HBA.out.size))
            clear hb9
            go_wp2_with fail
            go_ret
            exact ⟨rfl, HB9.out⟩
          have hinv2 : ∀ (i : Nat) (y : S33), i < k + 1 → ys[i]? = some y → fine y ∧ y.f1 < 4294967295 := fun i y hi hy => by
            by_cases e : i = k
            · subst e
              rw [HM.out] at hy
              cases hy
              exact ⟨⟨by omega, by omega⟩, by omega⟩
            · exact hinv i y (by omega) hy
          have HI := Lib.hid hinv2
          clear hinv hinv2
          go_wp2_with fail
          go_roundw
          case rel => exact ⟨k + 1, by omega, by go_num, HI.out, HBW.out⟩
          case measure => simp [intOf]; omega
        · obtain ⟨wo, hwo⟩ : ∃ wo, wo = wr := ⟨_, rfl⟩
          rw [← hwo] at hb ⊢
          have hinv2 : ∀ (i : Nat) (m : S33), ys[i]? = some m → fine m ∧ m.f1 < 4294967295 := fun i m hm => hinv i m (by have := (List.getElem?_eq_some_iff.1 hm).1; omega) hm
          have HI := Lib.hid hinv2
          have HB3 := Lib.hid (HB2.out.trans (hb.mono HB2.out.size))
          have hkn : ¬ (k : Int) < (ys.length : Int) := by omega
          have hall := Lib.hid (all16_any A2 c2 ys wo (HY.out.below HB3.out).row HY.out.cap (by omega))
          clear hb hwo hlt hk hinv hinv2 HB2
          go_wp2_with fail
          obtain ⟨L, hL⟩ : ∃ L, L = allL ys ys.length := ⟨_, rfl⟩
          have hLl : L.length = ys.length := by rw [hL, allL_len]
          have hLo : ∀ x ∈ L, ok36 x := by rw [hL]; exact allL_ok HN.out hy64'
          have hX := heard_all self xs ys ys.length hy64'
          have hinvX := heardFrom_inv self L hLo (xs, []) HO.out (fun y hy => by simp at hy)
          obtain ⟨X, chX, hXe⟩ : ∃ X chX, heard self xs L = (X, chX) := ⟨_, _, rfl⟩
          have hXe' : heardFrom self (xs, []) L = (X, chX) := hXe
          rw [← hL, hXe'] at hX
          rw [hXe'] at hinvX
          rw [← hL] at hall
          have hXl : X.length = xs.length := hX.1
          have HXI := Lib.hid hX.2
          have HXO := Lib.hid hinvX.2.2.1
          have HLO := Lib.hid hLo
          have HLL := Lib.hid hLl
          have HXL := Lib.hid hXl
          have HLE := Lib.hid hL
          have HXE := Lib.hid hXe
          clear hX hinvX hXe hXe' hLo hL hLl hXl
          refine (hall.out).mono ?_
          rintro e w4 ⟨vn, rfl, hvn, hb4⟩
          obtain ⟨An, cn, rfl, hna⟩ := hvn.arg
          have HNA := Lib.hid hna
          have HB4 := Lib.hid (HB3.out.trans (hb4.mono HB3.out.size))
          have hh := hear_any A c xs self An cn L w4 (HX.out.below HB4.out) (by omega) hna (by rw [HLL.out]; omega) HO.out HLO.out
          rw [HXE.out] at hh
          have HH := Lib.hid hh
          clear hvn hna hb4 hall HB3 hh
          go_wp2_with fail
          refine (HH.out).mono ?_
          rintro e w5 ⟨vx, vc, rfl, hvx, hvc, hb5⟩
          obtain ⟨Ax, cx, rfl, hxa⟩ := hvx.arg
          obtain ⟨Ac, cc, rfl, _⟩ := hvc.arg
          rw [HXL.out]
          have HXA := Lib.hid hxa
          have HB5 := Lib.hid (HB4.out.trans (hb5.mono HB4.out.size))
          have HY5 := Lib.hid (HY.out.below HB5.out)
          clear hvx hvc hxa hb5 HH HB4 HNA
          go_wp2_with fail
          go_loopw [52] (fun i wr => ∃ q : Nat, q ≤ xs.length ∧ i = .int .i64 q ∧ Below w5.heap.size w5 wr) (fun i _ => xs.length - (intOf i).toNat)
          case atStart => exact ⟨0, Nat.zero_le _, rfl, Below.refl _ _⟩
          case round =>
            obtain ⟨q, hq, rfl, hb⟩ := hrel
            by_cases hlt : q < xs.length
            · obtain ⟨m, hm⟩ : ∃ m, xs[q]? = some m := ⟨_, List.getElem?_eq_getElem hlt⟩
              have hXq := HXI.out q m hm
              have HB := Lib.hid hb
              have hqz : (0 : Int) ≤ (q : Int) := by omega
              have hqn : (q : Int) < (xs.length : Int) := by omega
              have hw8 : IntKind.u8.wrap (q : Int) = (q : Int) := by rw [IntKind.wrap_u8]; omega
              by_cases hqy : q < ys.length
              · obtain ⟨y, hy⟩ : ∃ y, ys[q]? = some y := ⟨_, List.getElem?_eq_getElem hqy⟩
                rw [if_pos hqy, rd_at hy] at hXq
                obtain ⟨ga, oa, ea, a0, a1⟩ := (HY5.out.below hb).row q y hy
                obtain ⟨gb, ob, eb, b0, b1⟩ := (HXA.out.below hb).row q _ hXq
                subst ea
                subst eb
                have hfine := (HI.out q y hy).1
                have hqy2 : (q : Int) < (ys.length : Int) := by omega
                have hd1 : decide ((q : Int) < (ys.length : Int)) = true := decide_eq_true hqy2
                have hd2 : decide (q < ys.length) = true := decide_eq_true hqy
                by_cases hself : (q : Int) = self
                · have e1 : ((q : Int) == self) = true := by rw [beq_iff_eq]; exact hself
                  have e2 : ((q : Int) != self) = false := by rw [bne, e1]; rfl
                  clear hm hXq hy hb hself hfine
                  go_wp2_with fail
                  go_quiet (fail)
                  go_wp2_with fail
                  go_roundw
                  case rel => exact ⟨q + 1, by omega, by go_num, below_drewN HB.out nq⟩
                  case measure => simp [intOf]; omega
                · have e1 : ((q : Int) == self) = false := beq_eq_false_iff_ne.2 hself
                  have e2 : ((q : Int) != self) = true := by rw [bne, e1]; rfl
                  rw [e1] at b0 b1
                  have hnn := hear1_notnewer (m := m) hfine
                  obtain ⟨z, hz⟩ : ∃ z, z = hear1 m false y := ⟨_, rfl⟩
                  rw [← hz] at b0 b1 hnn
                  have HE := Lib.hid hnn
                  clear hm hXq hy hb hself hfine hz hnn
                  go_wp2_with fail
                  go_cut [75] (fun v wx => v = .bool false ∧ Below w5.heap.size w5 wx)
                  case first =>
                    go_region_held3 (fun w' => w'.cell? ⟨ga, oa + q * 2, none⟩ = some (.int .u8 y.f0) ∧ w'.cell? ⟨ga, oa + q * 2 + 1, none⟩ = some (.int .u32 y.f1) ∧ w'.cell? ⟨gb, ob + q * 2, none⟩ = some (.int .u8 z.f0) ∧ w'.cell? ⟨gb, ob + q * 2 + 1, none⟩ = some (.int .u32 z.f1))
                      ((go_split_ands; (refine ⟨?_, ?_, ?_, ?_⟩ <;> first | assumption | exact cell_keep b15 (by assumption))))
                      (first | (go_at_call 15; refine (newer15_any y z _).mono ?_; rintro e v15 ⟨rfl, b15⟩))
                    go_wp2
                    go_meet
                    exact ⟨by rw [HE.out], HB.out.drew.trans (b15.mono HB.out.size)⟩
                  case rest =>
                    obtain ⟨rfl, hb⟩ := hcut
                    have HB9 := Lib.hid hb
                    clear hb a0 a1 b0 b1
                    go_wp2_with fail
                    go_roundw
                    case rel => exact ⟨q + 1, by omega, by go_num, HB9.out⟩
                    case measure => simp [intOf]; omega
              · have hd1 : decide ((q : Int) < (ys.length : Int)) = false := decide_eq_false (by omega)
                have hd2 : decide (q < ys.length) = false := decide_eq_false hqy
                clear hm hXq hb hqy
                go_wp2_with fail
                go_quiet (fail)
                go_wp2_with fail
                go_roundw
                case rel => exact ⟨q + 1, by omega, by go_num, below_drewN HB.out nq⟩
                case measure => simp [intOf]; omega
            · obtain ⟨wp, hwp⟩ : ∃ wp, wp = wr := ⟨_, rfl⟩
              rw [← hwp] at hb ⊢
              have hqn : ¬ (q : Int) < (xs.length : Int) := by omega
              have HB6 := Lib.hid (HB5.out.trans (hb.mono HB5.out.size))
              have HXA6 := Lib.hid (HXA.out.below hb)
              have hall := all16_any A2 c2 ys wp (HY.out.below HB6.out).row HY.out.cap (by omega)
              rw [← HLE.out] at hall
              have HALL := Lib.hid hall
              clear hb hwp hlt hq hall
              go_wp2_with fail
              refine (HALL.out).mono ?_
              rintro e w7 ⟨vn, rfl, hvn, hb7⟩
              obtain ⟨An, cn, rfl, hna⟩ := hvn.arg
              have HB7 := Lib.hid (HB6.out.trans (hb7.mono HB6.out.size))
              have HXA7 := Lib.hid (HXA6.out.below hb7)
              have hst : heard self X L = (X, []) := by
                rw [HLE.out]
                refine heard_still self X ys (fun i z hz hi => ?_) ys.length (Nat.le_refl _) hy64'
                obtain ⟨m, hm⟩ : ∃ m, xs[i]? = some m := ⟨_, List.getElem?_eq_getElem (by rw [← HXL.out]; exact (List.getElem?_eq_some_iff.1 hz).1)⟩
                obtain ⟨y, hy⟩ : ∃ y, ys[i]? = some y := ⟨_, List.getElem?_eq_getElem hi⟩
                have h1 := HXI.out i m hm
                rw [hz, if_pos hi, rd_at hy] at h1
                cases h1
                rw [rd_at hy]
                exact hear1_again _ (HI.out i y hy).1 (HI.out i y hy).2
              have hh := hear_any Ax cx X self An cn L w7 HXA7.out (by rw [HXL.out]; omega) hna (by rw [HLL.out]; omega) HXO.out HLO.out
              rw [hst, HXL.out] at hh
              have HH := Lib.hid hh
              clear hvn hna hb7 hst hh HALL HB6 HXA6
              go_wp2_with fail
              refine (HH.out).mono ?_
              rintro e w8 ⟨vy, vc, rfl, hvy, hvc, hb8⟩
              obtain ⟨Ay, cy, rfl, hya⟩ := hvy.arg
              obtain ⟨Ad, cd, rfl, _⟩ := hvc.arg
              rw [HXL.out]
              have HB8 := Lib.hid (HB7.out.trans (hb8.mono HB7.out.size))
              have HXA8 := Lib.hid (HXA7.out.below hb8)
              have HYA := Lib.hid hya
              clear hvy hvc hya hb8 HB7 HXA7 HH
              go_wp2_with fail
              refine (fixed_any w8).mono ?_
              rintro e w9 ⟨rfl, hb9⟩
              have HB9 := Lib.hid (HB8.out.trans (hb9.mono HB8.out.size))
              have hsame := same13_any Ax cx Ay cy X w9 (HXA8.out.below hb9).row HXA8.out.cap (HYA.out.below hb9).row HYA.out.cap (by rw [HXL.out]; omega)
              rw [HXL.out] at hsame
              have HS := Lib.hid hsame
              clear hb9 hsame HB8 HXA8 HYA
              go_wp2_with fail
              refine (HS.out).mono ?_
              rintro e w10 ⟨rfl, hb10⟩
              have HB10 := Lib.hid (HB9.out.trans (hb10.mono HB9.out.size))
              clear hb10
              go_wp2_with fail
              go_ret
              exact ⟨rfl, HB10.out⟩
theorem viewFull_walk (a : Option Addr) (len cap : Nat) (L : List S33) (a2 : Option Addr) (len2 cap2 : Nat) (L2 : List S33) (self : Int) (w : World) (hrow : RowOf cells33 2 ok33 w a len cap L) (hr : len * 8 ≤ 140737488351232) (hrow2 : RowOf cells33 2 ok33 w a2 len2 cap2 L2) (hr2 : len2 * 8 ≤ 140737488351232) (_hs : (Lit.int .u8 self).wf = true) :
    Calls Try.prog 6 #[.slice a len cap, .slice a2 len2 cap2, .int .u8 self] w fun e w' => TruePost w e w' := by
  have hm := memA_of_row hrow
  have hn := memA_of_row hrow2
  have hs := hrow.size
  have hs2 := hrow2.size
  subst hs hs2
  exact viewFull_some a cap L a2 cap2 L2 self w hm hn (by omega) (by omega) hrow.good hrow2.good
end Go.Proofs.Ythpfknigommheaa
