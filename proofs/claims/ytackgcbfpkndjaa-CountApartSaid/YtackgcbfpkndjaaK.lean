/- The walk of CountApart: what is added to one count changes no other one; the order of additions plays no part. Conditions: the row of calls lies as Go's slices do. -/
import Derived.Test.YtackgcbfpkndjaaI
import Derived.Test.YtackgcbfpkndjaaJ
import Derived.BigRegion
import Derived.Deep.DeepCutAuto
import Derived.Deep.RegionWith
namespace Go.Proofs.Ytackgcbfpkndjaa
open Go.RowKit Go.Maps Go.WideMaps

def n3 : List ByteArray := [sX, sY, sA]
noncomputable def valsOf (l : List OpV) : List Int := [cnt sX l, cnt sY l, cnt sA l]
theorem ones3 : ∀ s ∈ n3, s.size = 1 := by simp [n3, szX, szY, szA]
theorem nodup3 : n3.Nodup := by simp [n3, neXY, neXA, neYA]
def AddPost (w : World) (b bn bm bv : Nat) (l : List OpV) (e : Ending) (w' : World) : Prop := ∃ r : Bool, e = .returned (.bool r) ∧ CountsAt w' b bn bm bv n3 (valsOf l) ∧ w.grownBy w' (some bv)
theorem add_names {b bn bm bv : Nat} {l : List OpV} {w : World} (h : CountsAt w b bn bm bv n3 (valsOf l)) (o : OpV) (hok : ok37 o) (hl : ∀ o ∈ l, 0 ≤ o.n) :
    Calls Try.prog 9 #[.pointer (some ⟨b, 0, none⟩), .string o.s, .int .u64 o.n] w fun e w' => AddPost w b bn bm bv (l ++ [o]) e w' := by
  obtain ⟨hs, h0, h1⟩ := hok
  by_cases hx : o.s = sX
  · have hy : o.s ≠ sY := by rw [hx]; exact neXY
    have ha : o.s ≠ sA := by rw [hx]; exact neXA
    refine (add_hit h o.s 0 (cnt sX l) o.n (by rw [hx]; rfl) rfl h0 h1).mono fun e w' ⟨he, hw⟩ => ⟨true, he, ?_, ?_⟩
    · have hr := cnt_range sX l hl
      have := set_step h hw (addTo_range hr.1 h0)
      unfold valsOf
      rw [cnt_snoc, cnt_snoc, cnt_snoc, step_hit _ hx, step_miss _ hy, step_miss _ ha]
      exact this
    · rw [← hw]; exact grown_set _ _ _
  · by_cases hy : o.s = sY
    · have ha : o.s ≠ sA := by rw [hy]; exact neYA
      refine (add_hit h o.s 1 (cnt sY l) o.n (by rw [hy]; rfl) rfl h0 h1).mono fun e w' ⟨he, hw⟩ => ⟨true, he, ?_, ?_⟩
      · have hr := cnt_range sY l hl
        have := set_step h hw (addTo_range hr.1 h0)
        unfold valsOf
        rw [cnt_snoc, cnt_snoc, cnt_snoc, step_miss _ hx, step_hit _ hy, step_miss _ ha]
        exact this
      · rw [← hw]; exact grown_set _ _ _
    · by_cases ha : o.s = sA
      · refine (add_hit h o.s 2 (cnt sA l) o.n (by rw [ha]; rfl) rfl h0 h1).mono fun e w' ⟨he, hw⟩ => ⟨true, he, ?_, ?_⟩
        · have hr := cnt_range sA l hl
          have := set_step h hw (addTo_range hr.1 h0)
          unfold valsOf
          rw [cnt_snoc, cnt_snoc, cnt_snoc, step_miss _ hx, step_miss _ hy, step_hit _ ha]
          exact this
        · rw [← hw]; exact grown_set _ _ _
      · refine (add_miss h o.s o.n hs (by simp [n3, hx, hy, ha])).mono fun e w' ⟨he, hw⟩ => ⟨false, he, ?_, ?_⟩
        · subst hw
          unfold valsOf
          rw [cnt_snoc, cnt_snoc, cnt_snoc, step_miss _ hx, step_miss _ hy, step_miss _ ha]
          exact h
        · subst hw; exact World.grownBy.refl _ _

theorem zip3 (j : Nat) (hj : j < 3) : ∃ s, ∀ l, (n3.zip (valsOf l))[j]? = some (s, cnt s l) := by
  obtain rfl | rfl | rfl : j = 0 ∨ j = 1 ∨ j = 2 := by omega
  · exact ⟨sX, fun _ => rfl⟩
  · exact ⟨sY, fun _ => rfl⟩
  · exact ⟨sA, fun _ => rfl⟩
theorem str_eq (s t : ByteArray) (h : s ≠ t) : (s.toList == t.toList) = false := by
  rw [ByteArray.toList_eq, ByteArray.toList_eq]
  simp only [beq_eq_false_iff_ne]
  exact fun e => h (by cases s; cases t; simp_all)
theorem all3 {b bn bm bv : Nat} {vs : List Int} {w : World} (h : CountsAt w b bn bm bv n3 vs) :
    Calls Try.prog 11 #[.pointer (some ⟨b, 0, none⟩)] w fun e w' => ∃ g cap, e = .returned (.slice (some ⟨g, 0, none⟩) 3 cap) ∧ w.heap.size ≤ g ∧ g < w'.heap.size ∧ StatRow w' g (n3.zip vs) ∧ Below w.heap.size w w' :=
  (all_row h (by decide)).mono fun _ _ ⟨g, cap, he, h1, h2, h3, hb⟩ => ⟨g, cap, he, h1, h2, stat_row (n := 3) (ns := n3) rfl h3, hb⟩

set_option maxRecDepth 100000 in
set_option maxHeartbeats 4000000 in
theorem apart_walk (a : Option Addr) (len cap : Nat) (ops : List OpV) (t : Int) (w : World) (hrow : RowOf cells37 3 ok37 w a len cap ops) (_hr : len * 32 ≤ 140737488351232) (ht : (Lit.int .u8 t).wf = true) :
    Calls Try.prog 4 #[.slice a len cap, .int .u8 t] w fun e w' => TruePost w e w' := by
  have HR := Lib.hid hrow
  obtain ⟨t0, t1⟩ := bounds_u8 ht
  clear hrow ht
  go_enter Try.func4, Try.ntmps4
  go_wp2_with fail
  refine (new_ok ⟨w.heap.size, 0, none⟩ 3 n3 _ (lit_cells n3 w) (by decide) (by decide) nodup3 (ones ones3).1 (ones ones3).2).mono ?_
  rintro e w1 ⟨b, bn, bm, bv, rfl, hC, -, -, -, l3, hb⟩
  have hn1 : ∀ (j : Nat) (s : ByteArray), n3[j]? = some s → w1.cell? ((⟨w.heap.size, 0, none⟩ : Addr).add j) = some (.string s) := fun j s hj =>
    (hb.cell (World.block_lt_of_cell? _ _ (lit_cells n3 w j s hj))).trans (lit_cells n3 w j s hj)
  have hb1 : Below w.heap.size w w1 := ((Below.refl _ _).alloc (Nat.le_refl _) _).trans (hb.mono (by simp))
  have l : w.heap.size ≤ bv := by simp at l3; omega
  clear l3 hb
  go_wp2_with fail
  refine (new_ok ⟨w.heap.size, 0, none⟩ 3 n3 w1 hn1 (by decide) (by decide) nodup3 (ones ones3).1 (ones ones3).2).mono ?_
  rintro e w2 ⟨d, dn, dm, dv, rfl, hD, m0, m1, m2, m3, hb⟩
  have hb2 := hb1.trans (hb.mono hb1.size)
  have hC2 := hC.below hb
  have k0 := hC.lb
  have k1 := hC.lbn
  have k2 := hC.lbm
  have k3 := hC.lbv
  have hw1 := hb1.size
  clear hn1 hb1 hb hC
  have HC2 := Lib.hid hC2
  have HD2 := Lib.hid hD
  have HB2 := Lib.hid hb2
  clear hC2 hD hb2
  by_cases hbig : 200 < len
  · have hz : ((len : Int) == 0) = false := by simp; omega
    go_wp2_with (first | (go_at_call 8; refine (fixed_any _).mono ?_; rintro e w3 ⟨rfl, hb⟩; replace HB2 := Lib.hid (HB2.out.trans (hb.mono HB2.out.size)); have HBF := Lib.hid hb; clear hb))
    go_ret
    exact ⟨rfl, HB2.out⟩
  · by_cases hzero : len = 0
    · subst hzero
      go_wp2_with (first | (go_at_call 8; refine (fixed_any _).mono ?_; rintro e w3 ⟨rfl, hb⟩; replace HB2 := Lib.hid (HB2.out.trans (hb.mono HB2.out.size)); have HBF := Lib.hid hb; clear hb))
      go_ret
      exact ⟨rfl, HB2.out⟩
    · have hz : ((len : Int) == 0) = false := by simp; omega
      obtain ⟨q, hq, hql⟩ : ∃ q : Nat, t % (len : Int) = (q : Int) ∧ q < len := ⟨(t % (len : Int)).toNat, by rw [Int.toNat_of_nonneg (Int.emod_nonneg _ (by omega))], by have := Int.emod_lt_of_pos t (show (0 : Int) < len by omega); have := Int.emod_nonneg t (show (len : Int) ≠ 0 by omega); omega⟩
      go_wp2_with (first | (go_at_call 8; refine (fixed_any _).mono ?_; rintro e w3 ⟨rfl, hb⟩; replace HB2 := Lib.hid (HB2.out.trans (hb.mono HB2.out.size)); have HBF := Lib.hid hb; clear hb))
      replace HC2 := Lib.hid (HC2.out.below HBF.out)
      replace HD2 := Lib.hid (HD2.out.below HBF.out)
      clear HBF
      rw [hq]
      clear hq
      go_loopw [63] (fun i wr => ∃ k : Nat, k ≤ len ∧ i = .int .i64 k ∧ CountsAt wr b bn bm bv n3 (valsOf (ops.take k)) ∧ CountsAt wr d dn dm dv n3 (valsOf (turned ops q k)) ∧ Below w.heap.size w wr)
        (fun i _ => len - (intOf i).toNat)
      case atStart => exact ⟨0, Nat.zero_le _, rfl, HC2.out, HD2.out, HB2.out⟩
      case round =>
        obtain ⟨k, hk, rfl, hC, hD, hb⟩ := hrel
        clear HC2 HD2 HB2
        have hlen := HR.out.size
        by_cases hlt : k < len
        · obtain ⟨o, ho⟩ : ∃ o, ops[k]? = some o := ⟨_, List.getElem?_eq_getElem (by rw [hlen]; exact hlt)⟩
          obtain ⟨bo, oo, rfl, hcell⟩ := HR.out.cell k o ho
          have hok := HR.out.good o (List.mem_of_getElem? ho)
          have hnn : ∀ o ∈ ops.take k, 0 ≤ o.n := fun o h => (HR.out.good o (List.mem_of_mem_take h)).2.1
          have g1 := hcell 1 _ rfl
          have g2 := hcell 2 _ rfl
          rw [show oo + (k * 3 + 1) = oo + k * 3 + 1 by omega] at g1
          rw [show oo + (k * 3 + 2) = oo + k * 3 + 2 by omega] at g2
          have HO := Lib.hid ho
          have HCELL := Lib.hid hcell
          have hk0 : (0 : Int) ≤ (k : Int) := by omega
          have hkn : (k : Int) < (len : Int) := by omega
          clear ho hcell
          have HH := Lib.hid (And.intro hC (And.intro hD hb))
          clear hD
          go_wp2_with fail
          refine (all3 hC).mono ?_
          rintro e w4 ⟨g, cg, rfl, hg0, hg1, hgc, hb4⟩
          have hC4 := hC.below hb4
          have c1 := (hb4.cell (World.block_lt_of_cell? wr _ ((hb.cell (World.block_lt_of_cell? w _ g1)).trans g1))).trans ((hb.cell (World.block_lt_of_cell? w _ g1)).trans g1)
          have c2 := (hb4.cell (World.block_lt_of_cell? wr _ ((hb.cell (World.block_lt_of_cell? w _ g2)).trans g2))).trans ((hb.cell (World.block_lt_of_cell? w _ g2)).trans g2)
          have HROW := Lib.hid hgc
          have HB4 := Lib.hid hb4
          clear hgc hb4 hC hb g1 g2
          go_wp2_with fail
          go_cut [] (fun wx => CountsAt wx b bn bm bv n3 (valsOf (ops.take k ++ [o])) ∧ w4.grownBy wx (some bv))
          case first =>
            go_region_with (go_at_call 9; refine (add_names (by exact counts_heap hC4 rfl) o hok hnn).mono ?_; rintro e w5 ⟨r, rfl, hC5, hg5⟩)
            all_goals go_wp2
            all_goals go_meet
            all_goals exact ⟨hC5, ⟨hg5.os, hg5.tape, hg5.output, hg5.size, hg5.block⟩⟩
          case rest =>
            obtain ⟨hC5, hg5⟩ := hcut
            clear c1 c2 hC4
            go_wp2_with fail
            refine (all3 hC5).mono ?_
            rintro e w6 ⟨g6, cg6, rfl, hg60, hg61, hrow6, hb6⟩
            go_wp2_with fail
            have hall : Below w.heap.size w w6 := by
              have h1 := HH.out.2.2.trans (HB4.out.mono HH.out.2.2.size)
              exact (grown_below h1 hg5 h1.size l).trans (hb6.mono (Nat.le_trans h1.size hg5.size))
            have hC6 := hC5.below hb6
            have hD6 : CountsAt w6 d dn dm dv n3 (valsOf (turned ops q k)) := ((HH.out.2.1.below HB4.out).other hg5 (by omega) (by omega) (by omega) (by omega)).below hb6
            have hbvlt : bv < wr.heap.size := HH.out.1.lbv
            have hold : StatRow w6 g (n3.zip (valsOf (ops.take k))) := (HROW.out.other hg5 (by omega)).below hb6
            have HC6 := Lib.hid hC6
            have HD6 := Lib.hid hD6
            have HOLD := Lib.hid hold
            have HNEW := Lib.hid hrow6
            have HALL := Lib.hid hall
            clear hC6 hD6 hold hrow6 hall hC5 hg5 hb6 HROW HB4 HH hg0 hg1 hg60 hg61
            obtain ⟨wo, rfl⟩ : ∃ wo : World, wo = wr := ⟨_, rfl⟩
            go_loopw [83] (fun i wx => ∃ j : Nat, j ≤ 3 ∧ i = .int .i64 j ∧ Below w6.heap.size w6 wx) (fun i _ => 3 - (intOf i).toNat)
            case atStart => exact ⟨0, by omega, rfl, Below.refl _ _⟩
            case round =>
              obtain ⟨j, hj, rfl, hbx⟩ := hrel
              by_cases hj3 : j < 3
              · obtain ⟨sj, hz3⟩ := zip3 j hj3
                obtain ⟨n0, n1⟩ := (HNEW.out.below hbx) j sj _ (hz3 _)
                obtain ⟨q0, q1⟩ := (HOLD.out.below hbx) j sj _ (hz3 _)
                have hbw := HALL.out.trans (hbx.mono HALL.out.size)
                have hopc0 := HCELL.out 1 _ rfl
                have hopc := (hbw.cell (World.block_lt_of_cell? w _ hopc0)).trans hopc0
                rw [show oo + (k * 3 + 1) = oo + k * 3 + 1 by omega] at hopc
                obtain ⟨x, hx⟩ : ∃ x, x = cnt sj (ops.take k ++ [o]) := ⟨_, rfl⟩
                obtain ⟨y, hy⟩ : ∃ y, y = cnt sj (ops.take k) := ⟨_, rfl⟩
                rw [← hx] at n1
                rw [← hy] at q1
                have p0 := (World.cell?_alloc_lt wr (.cells #[.string sj, .int .u64 x] 39) _ (World.block_lt_of_cell? wr _ q0)).trans q0
                have p1 := (World.cell?_alloc_lt wr (.cells #[.string sj, .int .u64 x] 39) _ (World.block_lt_of_cell? wr _ q1)).trans q1
                have p2 := (World.cell?_alloc_lt wr (.cells #[.string sj, .int .u64 x] 39) _ (World.block_lt_of_cell? wr _ hopc)).trans hopc
                have he := fun (d : Nat) (w : World) (s : ByteArray) (x : Int) => eqA39 d w s x
                have hjz : (j : Int) < 3 := by omega
                have HBX := Lib.hid (hbx.trans (((Below.refl wr.heap.size wr).alloc (Nat.le_refl _) (.cells #[.string sj, .int .u64 x] 39)).mono hbx.size))
                clear q0 q1 hbw hopc0 hopc hbx hz3
                by_cases hsame : o.s = sj
                · have HX := Lib.hid hx
                  clear hx hy
                  subst hsame
                  have hbq : (o.s.toList == o.s.toList) = true := by simp
                  go_wp2_with fail
                  go_quiet (fail)
                  go_wp2
                  go_roundw
                  case rel => exact ⟨j + 1, by omega, by go_num, below_drewN' HBX.out _⟩
                  case measure => simp [intOf]; omega
                · have hxy : x = y := by rw [hx, hy, cnt_snoc, step_miss _ hsame]
                  have hbq := str_eq sj o.s (Ne.symm hsame)
                  clear hx hy
                  subst hxy
                  go_wp2_with fail
                  go_quiet (fail)
                  go_wp2
                  go_roundw
                  case rel => exact ⟨j + 1, by omega, by go_num, below_drewN' HBX.out _⟩
                  case measure => simp [intOf]; omega
              · have hbw := HALL.out.trans (hbx.mono HALL.out.size)
                have hC7 := HC6.out.below hbx
                have hD7 := HD6.out.below hbx
                obtain ⟨pp, hpp⟩ : ∃ pp, pp = (q + len - k) % len := ⟨_, rfl⟩
                have hppl : pp < len := by rw [hpp]; exact Nat.mod_lt _ (by omega)
                obtain ⟨o', ho'⟩ : ∃ o', ops[pp]? = some o' := ⟨_, List.getElem?_eq_getElem (by rw [hlen]; exact hppl)⟩
                obtain ⟨bo', oo', hbo', hcell'⟩ := HR.out.cell pp o' ho'
                injection hbo' with hbo'
                injection hbo' with e1 e2
                subst e1 e2
                have hok' := HR.out.good o' (List.mem_of_getElem? ho')
                have f0 := hcell' 0 _ rfl
                have f1 := hcell' 1 _ rfl
                have f2 := hcell' 2 _ rfl
                have d0 := (hbw.cell (World.block_lt_of_cell? w _ f0)).trans f0
                have d1 := (hbw.cell (World.block_lt_of_cell? w _ f1)).trans f1
                have d2 := (hbw.cell (World.block_lt_of_cell? w _ f2)).trans f2
                rw [hpp, show oo + ((q + len - k) % len * 3 + 0) = oo + (q + len - k) % len * 3 by omega] at d0
                rw [hpp, show oo + ((q + len - k) % len * 3 + 1) = oo + (q + len - k) % len * 3 + 1 by omega] at d1
                rw [hpp, show oo + ((q + len - k) % len * 3 + 2) = oo + (q + len - k) % len * 3 + 2 by omega] at d2
                have hidx0 : (0 : Int) ≤ ((q : Int) + len - k) % len := Int.emod_nonneg _ (by omega)
                have hidx1 : ((q : Int) + len - k) % len < len := Int.emod_lt_of_pos _ (by omega)
                have HPP := Lib.hid hpp
                have HO' := Lib.hid ho'
                have HC7 := Lib.hid hC7
                have HD7 := Lib.hid hD7
                have HBW := Lib.hid hbw
                clear hbx HC6 HD6 HOLD HNEW hpp ho' f0 f1 f2 hcell' hC7 hD7 hbw
                go_wp2_with fail
                have hbz : Below wr.heap.size wr (wr.alloc (.cells #[.bool o'.r, .string o'.s, .int .u64 o'.n] 37)) := (Below.refl _ _).alloc (Nat.le_refl _) _
                refine (add_names (HD7.out.below hbz) o' hok' (turned_nonneg (fun o h => (HR.out.good o h).2.1) q k)).mono ?_
                rintro e w8 ⟨r8, rfl, hD8, hg8⟩
                have hC8 := (HC7.out.below hbz).other hg8 (by omega) (by omega) (by omega) (by omega)
                have hb8 := grown_below (HBW.out.trans (hbz.mono HBW.out.size)) hg8 (Nat.le_trans HBW.out.size hbz.size) (by omega)
                have et : turned ops q (k + 1) = turned ops q k ++ [o'] := by
                  rw [turned_snoc, hlen, ← HPP.out, List.getD_eq_getElem?_getD, HO'.out]; rfl
                have ek : ops.take (k + 1) = ops.take k ++ [o] := by
                  have h := HO.out
                  rw [List.take_succ_eq_append_getElem (by omega)]
                  rw [List.getElem?_eq_getElem (by omega)] at h
                  injection h with h
                  rw [h]
                rw [← et] at hD8
                rw [← ek] at hC8
                have HC8 := Lib.hid hC8
                have HD8 := Lib.hid hD8
                have HB8 := Lib.hid hb8
                clear hbz hC8 hD8 hb8 et ek d0 d1 d2 hg8
                go_wp2_with fail
                go_roundw
                case rel => exact ⟨k + 1, by omega, by go_num, HC8.out, HD8.out, HB8.out⟩
                case measure => simp [intOf]; omega
        · have hkl : k = len := by omega
          subst hkl
          have hC' := hC
          rw [List.take_of_length_le (by omega)] at hC'
          have hD' := hD
          have hp := turned_perm (ops := ops) (n := q) (by omega)
          rw [hlen] at hp
          have hnn := turned_nonneg (ops := ops) (fun o h => (HR.out.good o h).2.1) q k
          have ev : valsOf (turned ops q k) = valsOf ops := by
            unfold valsOf
            rw [cnt_perm sX hp hnn, cnt_perm sY hp hnn, cnt_perm sA hp hnn]
          rw [ev] at hD'
          have HB := Lib.hid hb
          clear hC hD hb hp hnn ev
          go_wp2_with fail
          refine (all3 hC').mono ?_
          rintro e w4 ⟨g, cg, rfl, hg0, hg1, hrow, hb4⟩
          have hD4 := hD'.below hb4
          clear hC' hD'
          go_wp2_with fail
          refine (all3 hD4).mono ?_
          rintro e w5 ⟨g5, cg5, rfl, hg50, hg51, hrow5, hb5⟩
          go_wp2_with fail
          refine (same_true g g5 3 cg cg5 (n3.zip (valsOf ops)) w5 rfl (by omega) (hrow.below hb5) hrow5).mono ?_
          rintro e w6 ⟨rfl, hb6⟩
          have h4 := HB.out.trans (hb4.mono HB.out.size)
          have h5 := h4.trans (hb5.mono h4.size)
          have HB6 := Lib.hid (h5.trans (hb6.mono h5.size))
          clear h4 h5 hb4 hb5 hb6 hrow hrow5 hD4
          go_wp2_with fail
          go_ret
          exact ⟨rfl, HB6.out⟩
end Go.Proofs.Ytackgcbfpkndjaa
