/- The walk of CountLost: what all resets answered of a name, and what it has, is together what was added. Conditions: the row of calls lies as Go's slices do. -/
import Derived.Test.YtackgcbfpkndjaaH
import Derived.Deep.QuietTactic
import Derived.BigQuiet
namespace Go.Proofs.Ytackgcbfpkndjaa
open Go.RowKit Go.Maps Go.WideMaps

theorem onesXY : ∀ s ∈ [sX, sY], s.size = 1 := by simp [szX, szY]
/-- The state of the law's loop behind k calls. -/
def LostAt (w : World) (b bn bm bv ma mt k : Nat) (wr : World) : Prop :=
  ∃ (x y tx ty : Int) (DA DT : DataW Unit), CountsAt wr b bn bm bv [sX, sY] [x, y] ∧ NumMap wr ma (2 * k) DA ∧ NumMap wr mt (2 * k) DT ∧ At DA sX (tx + x) ∧ At DA sY (ty + y) ∧ At DT sX tx ∧ At DT sY ty ∧
    0 ≤ x ∧ 0 ≤ y ∧ 0 ≤ tx ∧ 0 ≤ ty ∧ tx + x ≤ k * 1125899906842624 ∧ ty + y ≤ k * 1125899906842624 ∧ Below w.heap.size w wr

set_option maxHeartbeats 2000000 in
theorem lost_walk (a : Option Addr) (len cap : Nat) (ops : List OpV) (w : World) (hrow : RowOf cells37 3 ok37 w a len cap ops) (_hr : len * 32 ≤ 140737488351232) :
    Calls Try.prog 6 #[.slice a len cap] w fun e w' => TruePost w e w' := by
  have HR := Lib.hid hrow
  clear hrow
  have hmm := @run_makeMap Try.prog
  go_enter Try.func6, Try.ntmps6
  go_wp2_with fail
  refine (new_ok ⟨w.heap.size, 0, none⟩ 2 [sX, sY] _ (lit_cells [sX, sY] w) (by decide) (by decide) (by simp [neXY]) (ones onesXY).1 (ones onesXY).2).mono ?_
  rintro e w1 ⟨b, bn, bm, bv, rfl, hC, -, -, -, l3, hb⟩
  have hb1 : Below w.heap.size w w1 := ((Below.refl _ _).alloc (Nat.le_refl _) _).trans (hb.mono (by simp))
  have l : w.heap.size ≤ bv := by simp at l3; omega
  clear l3 hb
  go_wp2_with fail
  refine (fixed_any w1).mono ?_
  rintro e w2 ⟨rfl, hb⟩
  have hC2 := hC.below hb
  have hb2 := hb1.trans (hb.mono hb1.size)
  clear hC hb1 hb
  have k0 : b < w2.heap.size := hC2.lb
  have k1 : bn < w2.heap.size := hC2.lbn
  have k2 : bm < w2.heap.size := hC2.lbm
  have k3 : bv < w2.heap.size := hC2.lbv
  have hL : LostAt w b bn bm bv w2.heap.size (w2.heap.size + 1) 0 ((w2.alloc (.map #[] 0)).alloc (.map #[] 0)) := by
    have m1 : NumMap (w2.alloc (.map #[] 0)) w2.heap.size 0 (.map []) := World.ownsMap_made w2 _ _ _
    have m2 : NumMap ((w2.alloc (.map #[] 0)).alloc (.map #[] 0)) (w2.heap.size + 1) 0 (.map []) := by
      have h := World.ownsMap_made (H := Unit) (w2.alloc (.map #[] 0)) Try.prog 9 (plainElem Try.prog 29)
      rw [World.size_alloc] at h
      exact h
    have hbb : Below w2.heap.size w2 ((w2.alloc (.map #[] 0)).alloc (.map #[] 0)) := ((Below.refl _ _).alloc (Nat.le_refl _) _).alloc (by simp) _
    exact ⟨0, 0, 0, 0, _, _, hC2.below hbb, m1.alloc _, m2, rfl, rfl, rfl, rfl, by omega, by omega, by omega, by omega, by omega, by omega, hb2.trans (hbb.mono hb2.size)⟩
  have HL := Lib.hid hL
  have hKw : w.heap.size ≤ w2.heap.size := hb2.size
  clear hC2 hb2 hL
  go_wp2_with fail
  go_loopw [29] (fun i wr => ∃ k : Nat, k ≤ len ∧ k ≤ 201 ∧ i = .int .i64 k ∧ LostAt w b bn bm bv w2.heap.size (w2.heap.size + 1) k wr) (fun i _ => len - (intOf i).toNat)
  case atStart => exact ⟨0, Nat.zero_le _, by omega, rfl, HL.out⟩
  case round =>
    obtain ⟨k, hk, hk201, rfl, hL⟩ := hrel
    obtain ⟨x, y, tx, ty, DA, DT, hC, hA, hT, hax, hay, htx, hty, p0, p1, p2, p3, q0, q1, hb⟩ := hL
    by_cases hlt : k < len
    · obtain ⟨o, ho⟩ : ∃ o, ops[k]? = some o := ⟨_, List.getElem?_eq_getElem (by rw [HR.out.size]; exact hlt)⟩
      obtain ⟨bo, oo, rfl, hcell⟩ := HR.out.cell k o ho
      obtain ⟨hs, hn0, hn1⟩ := HR.out.good o (List.mem_of_getElem? ho)
      have g0 := hcell 0 _ rfl
      have g1 := hcell 1 _ rfl
      have g2 := hcell 2 _ rfl
      rw [show oo + (k * 3 + 0) = oo + k * 3 by omega] at g0
      rw [show oo + (k * 3 + 1) = oo + k * 3 + 1 by omega] at g1
      rw [show oo + (k * 3 + 2) = oo + k * 3 + 2 by omega] at g2
      have c0 := (hb.cell (World.block_lt_of_cell? w _ g0)).trans g0
      have c1 := (hb.cell (World.block_lt_of_cell? w _ g1)).trans g1
      have c2 := (hb.cell (World.block_lt_of_cell? w _ g2)).trans g2
      clear g0 g1 g2 hcell ho
      have hsz := hb.size
      by_cases h200 : k ≤ 200
      · obtain ⟨r, s, n⟩ := o
        dsimp only at hs hn0 hn1
        have hlA := hA.lt
        have hlT := hT.lt
        have hbx : Below wr.heap.size wr (wr.alloc (.cells (cells37 ⟨r, s, n⟩).toArray 37)) := (Below.refl _ _).alloc (Nat.le_refl _) _
        have hC1 := hC.below hbx
        have hA1 := num_below hA hbx
        have hT1 := num_below hT hbx
        have hb1 := hb.trans (hbx.mono hsz)
        clear hC hA hT hb hbx
        cases r with
        | true =>
          go_wp2_with fail
          refine (reset_row hC1 (by decide)).mono ?_
          rintro e w3 ⟨g, cg, rfl, hg0, hg1, hgc, hC2, hgr⟩
          have HA2 := Lib.hid (num_other hA1 hgr (by omega))
          have HT2 := Lib.hid (num_other hT1 hgr (by omega))
          have HC2 := Lib.hid hC2
          have HB2 := Lib.hid (grown_below hb1 hgr hb1.size l)
          have d0 := hgc 0 (by decide)
          have d1 := hgc 1 (by decide)
          have d2 := hgc 2 (by decide)
          have d3 := hgc 3 (by decide)
          have HD := Lib.hid (And.intro d0 (And.intro d1 (And.intro d2 d3)))
          have hgm : wr.heap.size + 1 ≤ g := by simpa using hg0
          clear hgc d0 d1 d2 d3 hg0 hC1 hA1 hT1 hb1 hgr hC2 c0 c1 c2
          go_wp2_with fail
          obtain ⟨wo, rfl⟩ : ∃ wo : World, wo = wr := ⟨_, rfl⟩
          go_loopw [41] (fun i wq => ∃ (j : Nat) (D : DataW Unit), j ≤ 2 ∧ i = .int .i64 j ∧ CountsAt wq b bn bm bv [sX, sY] [0, 0] ∧ NumMap wq w2.heap.size (2 * k) DA ∧ NumMap wq (w2.heap.size + 1) (2 * k + j) D ∧
              At D sX (if 1 ≤ j then tx + x else tx) ∧ At D sY (if 2 ≤ j then ty + y else ty) ∧
              wq.cell? ⟨g, 0, none⟩ = some (.string sX) ∧ wq.cell? ⟨g, 1, none⟩ = some (.int .u64 x) ∧ wq.cell? ⟨g, 2, none⟩ = some (.string sY) ∧ wq.cell? ⟨g, 3, none⟩ = some (.int .u64 y) ∧ Below w.heap.size w wq)
            (fun i _ => 2 - (intOf i).toNat)
          case atStart => exact ⟨0, DT, by omega, rfl, HC2.out, HA2.out, HT2.out, by simpa using htx, by simpa using hty, HD.out.1, HD.out.2.1, HD.out.2.2.1, HD.out.2.2.2, HB2.out⟩
          case round =>
            obtain ⟨j, D, hj, rfl, hCq, hAq, hDq, hx', hy', e0, e1, e2, e3, hbq⟩ := hrel
            have hszq := hbq.size
            have hgq : g < wr.heap.size := World.block_lt_of_cell? wr _ e0
            have hmx : sX.size ≤ maxLen := (ones onesXY).2 sX (by simp)
            have hmy : sY.size ≤ maxLen := (ones onesXY).2 sY (by simp)
            have hlen := HR.out.size
            have hk2 : 2 * k + j < maxLen := by unfold maxLen; omega
            obtain rfl | rfl | rfl : j = 0 ∨ j = 1 ∨ j = 2 := by omega
            · have hx0 : At D sX tx := by simpa using hx'
              have hy0 : At D sY ty := by simpa using hy'
              have hbz : Below wr.heap.size wr (wr.alloc (.cells #[.string sX, .int .u64 x] 39)) := (Below.refl _ _).alloc (Nat.le_refl _) _
              have hD1 := num_below hDq hbz
              have hMap := hDq.isMap
              have HX := Lib.hid hx0
              have HY := Lib.hid hy0
              have HCq := Lib.hid (hCq.below hbz)
              have HAq := Lib.hid (num_below hAq hbz)
              have HBq := Lib.hid (hbq.trans (hbz.mono hszq))
              have HBZ := Lib.hid hbz
              have HM := Lib.hid hMap
              clear hx' hy' hx0 hy0 hCq hAq hbq hDq hbz hMap
              go_wp2_with (first
                | (at_lookup; refine wpList_num_known _ rfl _ _ rfl (w2.heap.size + 1) _ D rfl hD1 sX rfl hmx tx HX.out ?_)
                | (at_mapUpdate; refine wpList_num_put _ rfl _ _ _ rfl (w2.heap.size + 1) _ D rfl hD1 hk2 sX rfl hmx (tx + x) rfl (by omega) (by omega) ?_; intro w6 hD6 hg6))
              have r0 := keepc HBZ.out hg6 (p := ⟨g, 0, none⟩) (by show g ≠ _; omega) e0
              have r1 := keepc HBZ.out hg6 (p := ⟨g, 1, none⟩) (by show g ≠ _; omega) e1
              have r2 := keepc HBZ.out hg6 (p := ⟨g, 2, none⟩) (by show g ≠ _; omega) e2
              have r3 := keepc HBZ.out hg6 (p := ⟨g, 3, none⟩) (by show g ≠ _; omega) e3
              have hC6 := HCq.out.other hg6 (by omega) (by omega) (by omega) (by omega)
              have hA6 := num_other HAq.out hg6 (by omega)
              have hb6 := grown_below HBq.out hg6 HBq.out.size (by omega)
              have hxN : At (D.put (key sX) (.lit (.int .u64 (tx + x)))) sX (tx + x) := at_put HM.out
              have hyN : At (D.put (key sX) (.lit (.int .u64 (tx + x)))) sY ty := at_put_ne (Ne.symm neXY) HY.out
              clear e0 e1 e2 e3 hg6 hD1
              go_roundw
              case rel => exact ⟨1, _, by omega, by go_num, hC6, hA6, hD6, by simpa using hxN, by simpa using hyN, r0, r1, r2, r3, hb6⟩
              case measure => simp [intOf]
            · have hx0 : At D sX (tx + x) := by simpa using hx'
              have hy0 : At D sY ty := by simpa using hy'
              have hbz : Below wr.heap.size wr (wr.alloc (.cells #[.string sY, .int .u64 y] 39)) := (Below.refl _ _).alloc (Nat.le_refl _) _
              have hD1 := num_below hDq hbz
              have hMap := hDq.isMap
              have HX := Lib.hid hx0
              have HY := Lib.hid hy0
              have HCq := Lib.hid (hCq.below hbz)
              have HAq := Lib.hid (num_below hAq hbz)
              have HBq := Lib.hid (hbq.trans (hbz.mono hszq))
              have HBZ := Lib.hid hbz
              have HM := Lib.hid hMap
              clear hx' hy' hx0 hy0 hCq hAq hbq hDq hbz hMap
              go_wp2_with (first
                | (at_lookup; refine wpList_num_known _ rfl _ _ rfl (w2.heap.size + 1) _ D rfl hD1 sY rfl hmy ty HY.out ?_)
                | (at_mapUpdate; refine wpList_num_put _ rfl _ _ _ rfl (w2.heap.size + 1) _ D rfl hD1 hk2 sY rfl hmy (ty + y) rfl (by omega) (by omega) ?_; intro w6 hD6 hg6))
              have r0 := keepc HBZ.out hg6 (p := ⟨g, 0, none⟩) (by show g ≠ _; omega) e0
              have r1 := keepc HBZ.out hg6 (p := ⟨g, 1, none⟩) (by show g ≠ _; omega) e1
              have r2 := keepc HBZ.out hg6 (p := ⟨g, 2, none⟩) (by show g ≠ _; omega) e2
              have r3 := keepc HBZ.out hg6 (p := ⟨g, 3, none⟩) (by show g ≠ _; omega) e3
              have hC6 := HCq.out.other hg6 (by omega) (by omega) (by omega) (by omega)
              have hA6 := num_other HAq.out hg6 (by omega)
              have hb6 := grown_below HBq.out hg6 HBq.out.size (by omega)
              have hxN : At (D.put (key sY) (.lit (.int .u64 (ty + y)))) sX (tx + x) := at_put_ne neXY HX.out
              have hyN : At (D.put (key sY) (.lit (.int .u64 (ty + y)))) sY (ty + y) := at_put HM.out
              clear e0 e1 e2 e3 hg6 hD1
              go_roundw
              case rel => exact ⟨2, _, by omega, by go_num, hC6, hA6, hD6, by simpa using hxN, by simpa using hyN, r0, r1, r2, r3, hb6⟩
              case measure => simp [intOf]
            · have hx0 : At D sX (tx + x) := by simpa using hx'
              have hy0 : At D sY (ty + y) := by simpa using hy'
              have HX := Lib.hid hx0
              have HY := Lib.hid hy0
              have HCq := Lib.hid hCq
              have HAq := Lib.hid hAq
              have HDq := Lib.hid hDq
              have HBq := Lib.hid hbq
              clear hx' hy' hx0 hy0 hCq hAq hbq hDq e0 e1 e2 e3
              go_wp2
              go_roundw
              case rel => exact ⟨k + 1, by omega, by omega, by go_num, 0, 0, tx + x, ty + y, DA, D, HCq.out, num_mono HAq.out (by omega), num_mono HDq.out (by omega), by rw [Int.add_zero]; exact hax, by rw [Int.add_zero]; exact hay, HX.out, HY.out, by omega, by omega, by omega, by omega, by omega, by omega, HBq.out⟩
              case measure => simp [intOf]; omega
        | false =>
          have hlen := HR.out.size
          have hk2 : 2 * k < maxLen := by unfold maxLen; omega
          have HAX := Lib.hid hax
          have HAY := Lib.hid hay
          have HTX := Lib.hid htx
          have HTY := Lib.hid hty
          have hsw : wr.heap.size < (wr.alloc (.cells (cells37 ⟨false, s, n⟩).toArray 37)).heap.size := by simp
          have hbvw : bv < wr.heap.size := by have := hlA; omega
          clear hax hay htx hty hsw
          go_wp2_with fail
          by_cases hsx : s = sX
          · subst hsx
            refine (add_hit hC1 sX 0 x _ rfl rfl (by omega) (by omega)).mono ?_
            rintro e w4 ⟨rfl, hw⟩
            have haddTo : addTo x (n % 1125899906842624) = x + n % 1125899906842624 := by unfold addTo; rw [if_pos (by omega)]
            rw [haddTo] at hw
            have hC4 : CountsAt w4 b bn bm bv [sX, sY] [x + n % 1125899906842624, y] := set_step hC1 hw (by omega)
            have hg4 : (wr.alloc (.cells (cells37 ⟨false, sX, n⟩).toArray 37)).grownBy w4 (some bv) := by rw [← hw]; exact grown_set _ _ _
            have hA4 := num_other hA1 hg4 (by omega)
            have hT4 := num_other hT1 hg4 (by omega)
            have hb4 := grown_below hb1 hg4 hb1.size l
            have f0 := hg4.cell (a := ⟨wr.heap.size, 0, none⟩) (v := .bool false) (cell_new rfl (cells37 ⟨false, sX, n⟩).toArray 37 0) (fun e => by injection e with e; have e : wr.heap.size = bv := e; omega)
            have f1 := hg4.cell (a := ⟨wr.heap.size, 1, none⟩) (v := .string sX) (cell_new rfl (cells37 ⟨false, sX, n⟩).toArray 37 1) (fun e => by injection e with e; have e : wr.heap.size = bv := e; omega)
            have f2 := hg4.cell (a := ⟨wr.heap.size, 2, none⟩) (v := .int .u64 n) (cell_new rfl (cells37 ⟨false, sX, n⟩).toArray 37 2) (fun e => by injection e with e; have e : wr.heap.size = bv := e; omega)
            have HC4 := Lib.hid hC4
            have HT4 := Lib.hid hT4
            have HB4 := Lib.hid hb4
            have hMap := hA4.isMap
            have HM := Lib.hid hMap
            clear hC1 hA1 hT1 hb1 hw hC4 hg4 hT4 hb4 c0 c1 c2 haddTo hMap
            go_wp2_with (first
              | (at_lookup; refine wpList_num_known _ rfl _ _ rfl w2.heap.size _ DA rfl hA4 sX rfl hs _ HAX.out ?_)
              | (at_mapUpdate; refine wpList_num_put _ rfl _ _ _ rfl w2.heap.size _ DA rfl hA4 hk2 sX rfl hs _ rfl (by omega) (by omega) ?_; intro w6 hD6 hg6))
            have hC6 := HC4.out.other hg6 (by omega) (by omega) (by omega) (by omega)
            have hT6 := num_other HT4.out hg6 (by omega)
            have hb6 := grown_below HB4.out hg6 HB4.out.size (by omega)
            clear f0 f1 f2 hg6
            go_roundw
            case rel => exact ⟨k + 1, by omega, by omega, by go_num, x + n % 1125899906842624, y, tx, ty, _, _, hC6, num_mono hD6 (by omega), num_mono hT6 (by omega), by rw [← Int.add_assoc]; exact at_put HM.out, at_put_ne (Ne.symm neXY) HAY.out, HTX.out, HTY.out, by omega, by omega, by omega, by omega, by omega, by omega, hb6⟩
            case measure => simp [intOf]; omega
          · by_cases hsy : s = sY
            · subst hsy
              refine (add_hit hC1 sY 1 y _ rfl rfl (by omega) (by omega)).mono ?_
              rintro e w4 ⟨rfl, hw⟩
              have haddTo : addTo y (n % 1125899906842624) = y + n % 1125899906842624 := by unfold addTo; rw [if_pos (by omega)]
              rw [haddTo] at hw
              have hC4 : CountsAt w4 b bn bm bv [sX, sY] [x, y + n % 1125899906842624] := set_step hC1 hw (by omega)
              have hg4 : (wr.alloc (.cells (cells37 ⟨false, sY, n⟩).toArray 37)).grownBy w4 (some bv) := by rw [← hw]; exact grown_set _ _ _
              have hA4 := num_other hA1 hg4 (by omega)
              have hT4 := num_other hT1 hg4 (by omega)
              have hb4 := grown_below hb1 hg4 hb1.size l
              have f0 := hg4.cell (a := ⟨wr.heap.size, 0, none⟩) (v := .bool false) (cell_new rfl (cells37 ⟨false, sY, n⟩).toArray 37 0) (fun e => by injection e with e; have e : wr.heap.size = bv := e; omega)
              have f1 := hg4.cell (a := ⟨wr.heap.size, 1, none⟩) (v := .string sY) (cell_new rfl (cells37 ⟨false, sY, n⟩).toArray 37 1) (fun e => by injection e with e; have e : wr.heap.size = bv := e; omega)
              have f2 := hg4.cell (a := ⟨wr.heap.size, 2, none⟩) (v := .int .u64 n) (cell_new rfl (cells37 ⟨false, sY, n⟩).toArray 37 2) (fun e => by injection e with e; have e : wr.heap.size = bv := e; omega)
              have HC4 := Lib.hid hC4
              have HT4 := Lib.hid hT4
              have HB4 := Lib.hid hb4
              have hMap := hA4.isMap
              have HM := Lib.hid hMap
              clear hC1 hA1 hT1 hb1 hw hC4 hg4 hT4 hb4 c0 c1 c2 haddTo hMap
              go_wp2_with (first
                | (at_lookup; refine wpList_num_known _ rfl _ _ rfl w2.heap.size _ DA rfl hA4 sY rfl hs _ HAY.out ?_)
                | (at_mapUpdate; refine wpList_num_put _ rfl _ _ _ rfl w2.heap.size _ DA rfl hA4 hk2 sY rfl hs _ rfl (by omega) (by omega) ?_; intro w6 hD6 hg6))
              have hC6 := HC4.out.other hg6 (by omega) (by omega) (by omega) (by omega)
              have hT6 := num_other HT4.out hg6 (by omega)
              have hb6 := grown_below HB4.out hg6 HB4.out.size (by omega)
              clear f0 f1 f2 hg6
              go_roundw
              case rel => exact ⟨k + 1, by omega, by omega, by go_num, x, y + n % 1125899906842624, tx, ty, _, _, hC6, num_mono hD6 (by omega), num_mono hT6 (by omega), at_put_ne neXY HAX.out, by rw [← Int.add_assoc]; exact at_put HM.out, HTX.out, HTY.out, by omega, by omega, by omega, by omega, by omega, by omega, hb6⟩
              case measure => simp [intOf]; omega
            · refine (add_miss hC1 s _ hs (by simp [hsx, hsy])).mono ?_
              rintro e w4 ⟨rfl, rfl⟩
              have HC1 := Lib.hid hC1
              have HA1 := Lib.hid hA1
              have HT1 := Lib.hid hT1
              have HB1 := Lib.hid hb1
              clear hC1 hA1 hT1 hb1 c0 c1 c2
              go_wp2
              go_roundw
              case rel => exact ⟨k + 1, by omega, by omega, by go_num, x, y, tx, ty, _, _, HC1.out, num_mono HA1.out (by omega), num_mono HT1.out (by omega), HAX.out, HAY.out, HTX.out, HTY.out, by omega, by omega, by omega, by omega, by omega, by omega, HB1.out⟩
              case measure => simp [intOf]; omega
      · have HAX := Lib.hid hax
        have HAY := Lib.hid hay
        have HTX := Lib.hid htx
        have HTY := Lib.hid hty
        obtain ⟨r, s, n⟩ := o
        have hbx : Below wr.heap.size wr (wr.alloc (.cells (cells37 ⟨r, s, n⟩).toArray 37)) := (Below.refl _ _).alloc (Nat.le_refl _) _
        have HC1 := Lib.hid (hC.below hbx)
        have HA1 := Lib.hid (num_below hA hbx)
        have HT1 := Lib.hid (num_below hT hbx)
        have HB1 := Lib.hid (hb.trans (hbx.mono hsz))
        clear hC hA hT hb hax hay htx hty hbx
        go_wp2_with fail
        have hlitc : Below (wr.alloc (.cells (cells37 ⟨r, s, n⟩).toArray 37)).heap.size (wr.alloc (.cells (cells37 ⟨r, s, n⟩).toArray 37)) ((wr.alloc (.cells (cells37 ⟨r, s, n⟩).toArray 37)).alloc (.cells #[.string sX, .string sY] 9)) := (Below.refl _ _).alloc (Nat.le_refl _) _
        have HC2 := Lib.hid (HC1.out.below hlitc)
        have HA2 := Lib.hid (num_below HA1.out hlitc)
        have HT2 := Lib.hid (num_below HT1.out hlitc)
        have HB2 := Lib.hid (HB1.out.trans (hlitc.mono HB1.out.size))
        have HS0 := Lib.hid (cell_new (W := wr.alloc (.cells (cells37 ⟨r, s, n⟩).toArray 37)) (n := wr.heap.size + 1) (by simp) #[.string sX, .string sY] 9 0)
        have HS1 := Lib.hid (cell_new (W := wr.alloc (.cells (cells37 ⟨r, s, n⟩).toArray 37)) (n := wr.heap.size + 1) (by simp) #[.string sX, .string sY] 9 1)
        have hmx : sX.size ≤ maxLen := (ones onesXY).2 sX (by simp)
        have hmy : sY.size ≤ maxLen := (ones onesXY).2 sY (by simp)
        obtain ⟨G, hG⟩ : ∃ G, G = wr.heap.size + 1 := ⟨_, rfl⟩
        rw [← hG] at HS0 HS1
        have hlen := HR.out.size
        clear hlitc
        obtain ⟨wo, rfl⟩ : ∃ wo : World, wo = wr := ⟨_, rfl⟩
        go_loopw [71] (fun i wq => ∃ (j : Nat), j ≤ 2 ∧ i = .int .i64 j ∧ CountsAt wq b bn bm bv [sX, sY] [x, y] ∧ NumMap wq w2.heap.size (2 * k) DA ∧ NumMap wq (w2.heap.size + 1) (2 * k) DT ∧
            wq.cell? ⟨wo.heap.size + 1, 0, none⟩ = some (.string sX) ∧ wq.cell? ⟨wo.heap.size + 1, 1, none⟩ = some (.string sY) ∧ Below w.heap.size w wq)
          (fun i _ => 2 - (intOf i).toNat)
        case atStart => exact ⟨0, by omega, rfl, HC2.out, HA2.out, HT2.out, by rw [← hG]; exact HS0.out, by rw [← hG]; exact HS1.out, HB2.out⟩
        case round =>
          obtain ⟨j, hj, rfl, hCq, hAq, hTq, e0, e1, hbq⟩ := hrel
          clear hG HS0 HS1 HB2 HT2 HA2 HC2
          have hx1 : (tx + x == tx + x) = true := by simp
          have hg0 := fun nq => get_hit' (counts_heap hCq (w' := wr.drewN nq) rfl) sX 0 x rfl rfl
          have hg1 := fun nq => get_hit' (counts_heap hCq (w' := wr.drewN nq) rfl) sY 1 y rfl rfl
          have HG0 := Lib.hid hg0
          have HG1 := Lib.hid hg1
          have HCq := Lib.hid hCq
          have HAq := Lib.hid hAq
          have HTq := Lib.hid hTq
          have HBq := Lib.hid hbq
          clear hCq hAq hTq hbq hg0 hg1 hx1
          obtain rfl | rfl | rfl : j = 0 ∨ j = 1 ∨ j = 2 := by omega
          · have l0 := fun nq => num_run HTq.out hmx HTX.out (wr.drewN nq) rfl
            have l1 := fun nq => num_run HAq.out hmx HAX.out (wr.drewN nq) rfl
            have l2 := wrap_u64_in (v := tx + x) (by omega) (by omega)
            go_wp2_with fail
            go_quiet ((go_at_call 10; exact Calls.quiet_of_same (HG0.out _)))
            go_wp2
            go_roundw
            case rel => exact ⟨1, by omega, by go_num, counts_heap HCq.out rfl, num_heap HAq.out rfl, num_heap HTq.out rfl, e0, e1, below_drewN' HBq.out _⟩
            case measure => simp [intOf]
          · have l0 := fun nq => num_run HTq.out hmy HTY.out (wr.drewN nq) rfl
            have l1 := fun nq => num_run HAq.out hmy HAY.out (wr.drewN nq) rfl
            have l2 := wrap_u64_in (v := ty + y) (by omega) (by omega)
            go_wp2_with fail
            go_quiet ((go_at_call 10; exact Calls.quiet_of_same (HG1.out _)))
            go_wp2
            go_roundw
            case rel => exact ⟨2, by omega, by go_num, counts_heap HCq.out rfl, num_heap HAq.out rfl, num_heap HTq.out rfl, e0, e1, below_drewN' HBq.out _⟩
            case measure => simp [intOf]
          · go_wp2_with (first
              | (go_at_call 9; refine (add_nil _ _ _).mono ?_; rintro e w' ⟨rfl, rfl⟩)
              | (go_at_call 10; refine (get_nil _ _).mono ?_; rintro e w' ⟨rfl, rfl⟩)
              | (go_at_call 11; refine (all_nil _).mono ?_; rintro e w' ⟨rfl, rfl⟩)
              | (go_at_call 14; refine (reset_nil _).mono ?_; rintro e w' ⟨rfl, rfl⟩))
            go_ret
            exact ⟨rfl, HBq.out⟩
    · have HAX := Lib.hid hax
      have HAY := Lib.hid hay
      have HTX := Lib.hid htx
      have HTY := Lib.hid hty
      have HC1 := Lib.hid hC
      have HA1 := Lib.hid hA
      have HT1 := Lib.hid hT
      have HB1 := Lib.hid hb
      clear hC hA hT hb hax hay htx hty
      go_wp2_with fail
      have hlitc : Below wr.heap.size wr (wr.alloc (.cells #[.string sX, .string sY] 9)) := (Below.refl _ _).alloc (Nat.le_refl _) _
      have HC2 := Lib.hid (HC1.out.below hlitc)
      have HA2 := Lib.hid (num_below HA1.out hlitc)
      have HT2 := Lib.hid (num_below HT1.out hlitc)
      have HB2 := Lib.hid (HB1.out.trans (hlitc.mono HB1.out.size))
      have HS0 := Lib.hid (cell_new (W := wr) (n := wr.heap.size) rfl #[.string sX, .string sY] 9 0)
      have HS1 := Lib.hid (cell_new (W := wr) (n := wr.heap.size) rfl #[.string sX, .string sY] 9 1)
      have hmx : sX.size ≤ maxLen := (ones onesXY).2 sX (by simp)
      have hmy : sY.size ≤ maxLen := (ones onesXY).2 sY (by simp)
      obtain ⟨G, hG⟩ : ∃ G, G = wr.heap.size := ⟨_, rfl⟩
      rw [← hG] at HS0 HS1
      have hlen := HR.out.size
      clear hlitc
      obtain ⟨wo, rfl⟩ : ∃ wo : World, wo = wr := ⟨_, rfl⟩
      go_loopw [71] (fun i wq => ∃ (j : Nat), j ≤ 2 ∧ i = .int .i64 j ∧ CountsAt wq b bn bm bv [sX, sY] [x, y] ∧ NumMap wq w2.heap.size (2 * k) DA ∧ NumMap wq (w2.heap.size + 1) (2 * k) DT ∧
          wq.cell? ⟨wo.heap.size, 0, none⟩ = some (.string sX) ∧ wq.cell? ⟨wo.heap.size, 1, none⟩ = some (.string sY) ∧ Below w.heap.size w wq)
        (fun i _ => 2 - (intOf i).toNat)
      case atStart => exact ⟨0, by omega, rfl, HC2.out, HA2.out, HT2.out, by rw [← hG]; exact HS0.out, by rw [← hG]; exact HS1.out, HB2.out⟩
      case round =>
        obtain ⟨j, hj, rfl, hCq, hAq, hTq, e0, e1, hbq⟩ := hrel
        clear hG HS0 HS1 HB2 HT2 HA2 HC2
        have hx1 : (tx + x == tx + x) = true := by simp
        have hg0 := fun nq => get_hit' (counts_heap hCq (w' := wr.drewN nq) rfl) sX 0 x rfl rfl
        have hg1 := fun nq => get_hit' (counts_heap hCq (w' := wr.drewN nq) rfl) sY 1 y rfl rfl
        have HG0 := Lib.hid hg0
        have HG1 := Lib.hid hg1
        have HCq := Lib.hid hCq
        have HAq := Lib.hid hAq
        have HTq := Lib.hid hTq
        have HBq := Lib.hid hbq
        clear hCq hAq hTq hbq hg0 hg1 hx1
        obtain rfl | rfl | rfl : j = 0 ∨ j = 1 ∨ j = 2 := by omega
        · have l0 := fun nq => num_run HTq.out hmx HTX.out (wr.drewN nq) rfl
          have l1 := fun nq => num_run HAq.out hmx HAX.out (wr.drewN nq) rfl
          have l2 := wrap_u64_in (v := tx + x) (by omega) (by omega)
          go_wp2_with fail
          go_quiet ((go_at_call 10; exact Calls.quiet_of_same (HG0.out _)))
          go_wp2
          go_roundw
          case rel => exact ⟨1, by omega, by go_num, counts_heap HCq.out rfl, num_heap HAq.out rfl, num_heap HTq.out rfl, e0, e1, below_drewN' HBq.out _⟩
          case measure => simp [intOf]
        · have l0 := fun nq => num_run HTq.out hmy HTY.out (wr.drewN nq) rfl
          have l1 := fun nq => num_run HAq.out hmy HAY.out (wr.drewN nq) rfl
          have l2 := wrap_u64_in (v := ty + y) (by omega) (by omega)
          go_wp2_with fail
          go_quiet ((go_at_call 10; exact Calls.quiet_of_same (HG1.out _)))
          go_wp2
          go_roundw
          case rel => exact ⟨2, by omega, by go_num, counts_heap HCq.out rfl, num_heap HAq.out rfl, num_heap HTq.out rfl, e0, e1, below_drewN' HBq.out _⟩
          case measure => simp [intOf]
        · go_wp2_with (first
            | (go_at_call 9; refine (add_nil _ _ _).mono ?_; rintro e w' ⟨rfl, rfl⟩)
            | (go_at_call 10; refine (get_nil _ _).mono ?_; rintro e w' ⟨rfl, rfl⟩)
            | (go_at_call 11; refine (all_nil _).mono ?_; rintro e w' ⟨rfl, rfl⟩)
            | (go_at_call 14; refine (reset_nil _).mono ?_; rintro e w' ⟨rfl, rfl⟩))
          go_ret
          exact ⟨rfl, HBq.out⟩
end Go.Proofs.Ytackgcbfpkndjaa
