/- The walk of TreePlays. Conditions: the row lies as Go's slices do. -/
import Derived.Test.YtibgfmkgojeefaaZ
import Derived.Deep.CutBlock
import Derived.Deep.QuietTactic
import Derived.BigQuiet
namespace Go.Proofs.Ytibgfmkgojeefaa
open Go.RowKit Go.Maps Go.WideMaps Go.ChangeShapes Go.WideShapes Go.Deep

theorem node20_root (m : Nat → Nat) (hm : ∀ j, m j < 2 ^ 64) (w : World) :
    Calls Try.prog 20 #[.agg (arr m), .int .i64 0, .int .i64 0] w fun e w' => Node20Post w (nd m 1) e w' := by
  have h := node20_any m hm 0 0 w
  rw [nodeVal_yes (by decide)] at h
  exact h
theorem irow_arr {w : World} {b : Nat} {m : Nat → Nat} (h : ArrAt w b m) : IRow w .u64 (.slice (some ⟨b, 0, none⟩) 64 64) (leavesOf m) := by
  refine ⟨_, 64, by rw [leavesOf_len], fun _ => ⟨b, 0, rfl, fun j x hj => ?_⟩⟩
  obtain ⟨hlt, rfl⟩ := leavesOf_get hj
  rw [Nat.zero_add]
  exact h.cell hlt
set_option maxRecDepth 100000 in
set_option maxHeartbeats 4000000 in
theorem treePlays_walk (a : Option Addr) (len cap : Nat) (L : List FlipV) (level i : Int) (w : World) (hrow : RowOf cells39 2 ok39 w a len cap L) (hr : len * 16 ≤ 140737488351232) (_hlw : (Lit.int .i64 level).wf = true) (_hiw : (Lit.int .i64 i).wf = true) :
    Calls Try.prog 5 #[.slice a len cap, .int .i64 level, .int .i64 i] w fun e w' => TruePost w e w' := by
  have HR := Lib.hid hrow
  clear hrow
  have hb27 := build27
  have hb39 := build39
  go_enter Try.func5, Try.ntmps5
  go_wp2_with fail
  refine (new_any _).mono ?_
  rintro e w1 ⟨t, rfl, ht, htn, hb1⟩
  have HT := Lib.hid ht
  have TN := Lib.hid htn
  have B1 := Lib.hid hb1
  clear ht htn hb1
  go_wp2_with fail
  refine (fixed_any w1).mono ?_
  rintro e w2 ⟨rfl, hb4⟩
  have HT2 := Lib.hid (HT.out.below hb4)
  have B2 := Lib.hid (B1.out.trans (hb4.mono B1.out.size))
  clear hb4 HT B1
  go_upto_block 0 with fail
  go_cut [] (fun wx => Tr wx t (flips (fun _ => 0) (L.take 101)) ∧ w2.grownBy wx (some t))
  case first =>
    go_wp2_with fail
    go_loopw [21] (fun v wr => ∃ k : Nat, k ≤ len ∧ k ≤ 101 ∧ v = .int .i64 k ∧ Tr wr t (flips (fun _ => 0) (L.take k)) ∧ w2.grownBy wr (some t)) (fun v _ => len - (intOf v).toNat)
    case atStart => exact ⟨0, Nat.zero_le _, Nat.zero_le _, rfl, HT2.out, ⟨rfl, rfl, rfl, Nat.le_refl _, fun _ _ _ => rfl⟩⟩
    case round =>
      obtain ⟨k, hk, hk1, rfl, hT, hg⟩ := hrel
      by_cases hlt : k < len
      · obtain ⟨f, hf⟩ : ∃ f, L[k]? = some f := ⟨_, List.getElem?_eq_getElem (by rw [HR.out.size]; exact hlt)⟩
        obtain ⟨bo, oo, rfl, hcell⟩ := HR.out.cell k f hf
        obtain ⟨fi, fx⟩ := f
        have c0 : w.cell? ⟨bo, oo + k * 2, none⟩ = some (.int .i64 fi) := hcell 0 _ rfl
        have c1 : w.cell? ⟨bo, oo + k * 2 + 1, none⟩ = some (.int .u64 fx) := hcell 1 _ rfl
        have hlt0 := World.block_lt_of_cell? w _ c0
        have hlt1 := World.block_lt_of_cell? w _ c1
        have e0 := (B2.out.cell hlt0).trans c0
        have e1 := (B2.out.cell hlt1).trans c1
        have hbv : bo ≠ t := by have := TN.out; have : bo < w.heap.size := hlt0; omega
        have d0 := hg.cell e0 (fun e => hbv (Option.some.inj e))
        have d1 := hg.cell e1 (fun e => hbv (Option.some.inj e))
        have hok := HR.out.good _ (List.mem_of_getElem? hf)
        have hstep := flips_more (fun _ => 0) L k _ hf
        have HG := Lib.hid hg
        have HS0 := Lib.hid hstep
        have HOK := Lib.hid hok
        have hba : Below wr.heap.size wr (wr.alloc (.cells #[.int .i64 fi, .int .u64 (fx : Int)] 39)) := (Below.refl _ _).alloc (Nat.le_refl _) _
        have hTa : Tr (wr.alloc (.cells #[.int .i64 fi, .int .u64 (fx : Int)] 39)).drew t (flips (fun _ => 0) (L.take k)) := (hT.below hba).heap rfl
        have HTA := Lib.hid hTa
        have HTR := Lib.hid hT
        have TNE : Hid (wr.heap.size ≠ t) := Lib.hid (by have := hT.lt; omega)
        have hga : w2.grownBy (wr.alloc (.cells #[.int .i64 fi, .int .u64 (fx : Int)] 39)).drew (some t) := by
          have h := grown_trans hg (World.grownBy_alloc wr (.cells #[.int .i64 fi, .int .u64 (fx : Int)] 39) (some t))
          exact ⟨h.os, h.tape, h.output, h.size, h.block⟩
        have HGA := Lib.hid hga
        have q0 : (wr.alloc (.cells #[.int .i64 fi, .int .u64 (fx : Int)] 39)).cell? ⟨wr.heap.size, 0, none⟩ = some (.int .i64 fi) := cell_new rfl _ _ 0
        have q1 : (wr.alloc (.cells #[.int .i64 fi, .int .u64 (fx : Int)] 39)).cell? ⟨wr.heap.size, 1, none⟩ = some (.int .u64 (fx : Int)) := cell_new rfl _ _ 1
        have Q0 := Lib.hid q0
        have hkz : (0 : Int) ≤ (k : Int) := by omega
        have hkn : (k : Int) < (len : Int) := by omega
        clear hcell c0 c1 e0 e1 hlt0 hlt1 hbv hf hok hstep hT hg hba hTa hga
        by_cases h100 : k ≤ 100
        · by_cases hin : 0 ≤ fi ∧ fi < 64
          · obtain ⟨i, rfl⟩ := Int.eq_ofNat_of_zero_le hin.1
            have hfl := flip_any HTA.out i (by omega) fx HOK.out.2.2
            have hsT : flips (fun _ => 0) (L.take (k + 1)) = turn (flips (fun _ => 0) (L.take k)) i fx := by rw [HS0.out, flipStep_in hin]; rfl
            rw [← hsT] at hfl
            have HFL := Lib.hid hfl
            have hin0 : (0 : Int) ≤ (i : Int) := by omega
            have hin1 : (i : Int) < 64 := hin.2
            clear hfl hsT hin
            go_wp2_with fail
            go_cut [43] (fun v wx => v = .bool false ∧ Tr wx t (flips (fun _ => 0) (L.take (k + 1))) ∧ w2.grownBy wx (some t))
            case first =>
              go_region_with (go_at_call 18; refine (HFL.out).mono ?_; rintro e w9 ⟨rfl, hV9, hg9⟩; have r0 := hg9.cell (show (World.drew _).cell? _ = _ from Q0.out) (fun e => TNE.out (Option.some.inj e)))
              all_goals go_wp2
              all_goals go_meet
              all_goals exact ⟨rfl, hV9, grown_trans HGA.out hg9⟩
            case rest =>
              obtain ⟨rfl, hV9, hg9⟩ := hcut
              have HV9 := Lib.hid hV9
              have HG9 := Lib.hid hg9
              clear hV9 hg9 q0 q1 d0 d1 HFL HTA HTR HGA HG HS0 Q0
              go_wp2_with fail
              go_roundw
              case rel => exact ⟨k + 1, by omega, by omega, by go_num, HV9.out, HG9.out⟩
              case measure => simp [intOf]; omega
          · have hfl := flip_bad t fi fx (by omega)
            have HFL := Lib.hid hfl
            have hsT : flips (fun _ => 0) (L.take (k + 1)) = flips (fun _ => 0) (L.take k) := by rw [HS0.out, flipStep_out hin]
            have hTa := HTA.out
            rw [← hsT] at hTa
            have HTB := Lib.hid hTa
            have HQ : Hid (∀ w, Calls Try.prog 18 #[.pointer (some ⟨t, 0, none⟩), .int .i64 fi, .int .u64 (fx : Int)] w fun e w' => e = .returned (.int .i64 1) ∧ w' = w) := Lib.hid fun w => (hfl w).mono fun e w' h => ⟨h.1, h.2.symm⟩
            rcases (show fi < 0 ∨ 64 ≤ fi by omega) with hf0 | hf0
            · have hd0 : decide ((0 : Int) ≤ fi) = false := decide_eq_false (by omega)
              clear hfl hsT hin hTa hf0 HFL
              go_wp2_with fail
              go_quiet ((go_at_call 18; exact Calls.quiet_of_same (HQ.out _)))
              have HV9 : Hid (Tr ((wr.alloc (.cells #[.int .i64 fi, .int .u64 (fx : Int)] 39)).drewN nq) t (flips (fun _ => 0) (L.take (k + 1)))) := Lib.hid (HTB.out.heap rfl)
              have HG9 : Hid (w2.grownBy ((wr.alloc (.cells #[.int .i64 fi, .int .u64 (fx : Int)] 39)).drewN nq) (some t)) := Lib.hid ⟨HGA.out.os, HGA.out.tape, HGA.out.output, HGA.out.size, HGA.out.block⟩
              clear q0 q1 d0 d1 HTA HTR HGA HG HS0 Q0 HTB HQ
              go_wp2_with fail
              go_roundw
              case rel => exact ⟨k + 1, by omega, by omega, by go_num, HV9.out, HG9.out⟩
              case measure => simp [intOf]; omega
            · have hd0 : (0 : Int) ≤ fi := by omega
              have hd1 : decide (fi < 64) = false := decide_eq_false (by omega)
              clear hfl hsT hin hTa hf0 HFL
              go_wp2_with fail
              go_quiet ((go_at_call 18; exact Calls.quiet_of_same (HQ.out _)))
              have HV9 : Hid (Tr ((wr.alloc (.cells #[.int .i64 fi, .int .u64 (fx : Int)] 39)).drewN nq) t (flips (fun _ => 0) (L.take (k + 1)))) := Lib.hid (HTB.out.heap rfl)
              have HG9 : Hid (w2.grownBy ((wr.alloc (.cells #[.int .i64 fi, .int .u64 (fx : Int)] 39)).drewN nq) (some t)) := Lib.hid ⟨HGA.out.os, HGA.out.tape, HGA.out.output, HGA.out.size, HGA.out.block⟩
              clear q0 q1 d0 d1 HTA HTR HGA HG HS0 Q0 HTB HQ
              go_wp2_with fail
              go_roundw
              case rel => exact ⟨k + 1, by omega, by omega, by go_num, HV9.out, HG9.out⟩
              case measure => simp [intOf]; omega
        · obtain rfl : k = 101 := by omega
          have hgb : w2.grownBy (wr.alloc (.cells #[.int .i64 fi, .int .u64 (fx : Int)] 39)) (some t) := grown_trans HG.out (World.grownBy_alloc _ _ _)
          have HTB := Lib.hid (HTR.out.below ((Below.refl _ _).alloc (Nat.le_refl _) (.cells #[.int .i64 fi, .int .u64 (fx : Int)] 39)))
          have HGB := Lib.hid hgb
          clear hgb q0 q1 HTA HTR HGA HG HS0 Q0
          go_wp2_with fail
          go_meet
          exact ⟨HTB.out, HGB.out⟩
      · obtain rfl : k = len := by omega
        have hLt : L.take 101 = L.take k := by
          rw [List.take_of_length_le (by rw [HR.out.size]; omega), List.take_of_length_le (by rw [HR.out.size]; omega)]
        rw [← hLt] at hT
        have HTR := Lib.hid hT
        have HG := Lib.hid hg
        clear hT hg hLt
        go_wp2_with fail
        go_meet
        exact ⟨HTR.out, HG.out⟩
  case rest =>
    obtain ⟨hT, hg⟩ := hcut
    obtain ⟨x, hx⟩ : ∃ x, x = flips (fun _ => 0) (L.take 101) := ⟨_, rfl⟩
    have hxl : ∀ j, x j < 2 ^ 64 := by rw [hx]; exact flips_lt (fun f hf => (HR.out.good f (List.mem_of_mem_take hf)).2.2) (fun _ => by decide)
    rw [← hx] at hT
    have HT3 := Lib.hid hT
    have B3 := Lib.hid (below_grown B2.out hg B2.out.size TN.out)
    have XL := Lib.hid hxl
    have HX := Lib.hid hx
    clear hT hg hx hxl HT2 B2
    go_wp2_with fail
    refine (new_any wc).mono ?_
    rintro e w5 ⟨u, rfl, hu, hun, hb5⟩
    have UN : Hid (w.heap.size ≤ u) := Lib.hid (Nat.le_trans B3.out.size hun)
    have HTU : Hid (t ≠ u) := Lib.hid (by have := HT3.out.lt; omega)
    have HT5 := Lib.hid (HT3.out.below hb5)
    have HU5 := Lib.hid hu
    have B5 := Lib.hid (B3.out.trans (hb5.mono B3.out.size))
    clear hu hun hb5 HT3 B3
    have hfl := flips_any HU5.out a len cap L (HR.out.below B5.out) hr (row_away HR.out UN.out)
    rw [← HX.out] at hfl
    have HFL := Lib.hid hfl
    clear hfl
    go_wp2_with fail
    refine (HFL.out).mono ?_
    rintro e w6 ⟨rfl, hu6, hg6⟩
    have HT6 := Lib.hid (HT5.out.other hg6 HTU.out)
    have B6 := Lib.hid (below_grown B5.out hg6 B5.out.size UN.out)
    clear hu6 hg6 HT5 HU5 B5 HFL HR HX
    have z1 : ArrAt (w6.alloc (.cells (arr (fun _ => 0)) 27)) w6.heap.size (fun _ => 0) := ⟨heap_alloc_new _ _⟩
    have Z1 := Lib.hid z1
    obtain ⟨W7, hW7⟩ : ∃ W7, W7 = (w6.alloc (.cells (arr (fun _ => 0)) 27)).setRow w6.heap.size (arr x) := ⟨_, rfl⟩
    have bz : Below w6.heap.size w6 W7 := by
      rw [hW7]
      exact below_setRow ((Below.refl _ _).alloc (Nat.le_refl _) _) (Nat.le_refl _) _
    have X7 : Hid (ArrAt W7 w6.heap.size x) := Lib.hid (by rw [hW7]; exact z1.stored)
    have HT7 := Lib.hid (HT6.out.below bz)
    have B7 := Lib.hid (B6.out.trans (bz.mono B6.out.size))
    have HW7 := Lib.hid hW7
    clear bz hW7 z1
    go_wp2_with (first
      | (refine wpList_store_row rfl 27 _ _ rfl w6.heap.size (arr x) rfl rfl 27 _ Z1.out.blk (info27 _) (by rw [arr_size, arr_size]) (arr_one _) ?_)
      | fail)
    rw [← HW7.out]
    clear HW7 Z1 HT6 B6
    have NI : Hid (∀ w, Calls Try.prog 20 #[.agg (arr x), .int .i64 level, .int .i64 i] w fun e w' => Node20Post w (nodeVal x level i) e w') := Lib.hid (node20_any x XL.out level i)
    have NR : Hid (∀ w, Calls Try.prog 20 #[.agg (arr x), .int .i64 0, .int .i64 0] w fun e w' => Node20Post w (nd x 1) e w') := Lib.hid (node20_root x XL.out)
    clear XL TN UN HTU
    go_simp
    go_cut [6] (fun v wx => v = .bool true ∧ Below w.heap.size w wx)
    case first =>
      refine wp_region_any (by kernel_rfl) ?_
      change wpAny _ _ _ _ _ _ _ (World.drew _)
      have X0 : Hid (ArrAt W7.drew w6.heap.size x) := Lib.hid ⟨X7.out.blk⟩
      have T0 : Hid (Tr W7.drew t x) := Lib.hid (HT7.out.heap rfl)
      have B0 : Hid (Below w.heap.size w W7.drew) := Lib.hid B7.out.drew
      clear X7 HT7 B7
      generalize World.drew W7 = V0 at X0 T0 B0 ⊢
      refine wpAny_take (i := 0) (v := ?v0) rfl (by kernel_rfl) (by kernel_rfl) (by kernel_rfl) (fun _ _ _ h => h) (Or.inl ⟨by rfl, ?y0⟩) ?_
      case y0 => intro w; go_simp; try with_reducible rfl
      refine wpAny_take (i := 1) (v := ?v1) rfl (by kernel_rfl) (by kernel_rfl) (by kernel_rfl) (fun _ _ _ h => h) (Or.inl ⟨by rfl, ?y1⟩) ?_
      case y1 => intro w; go_simp; try with_reducible rfl
      refine wpAny_take (i := 2) (v := ?v2) rfl (by kernel_rfl) (by kernel_rfl) (by kernel_rfl) (fun _ _ _ h => h) (Or.inl ⟨by rfl, ?y2⟩) ?_
      case y2 => intro w; go_simp; try with_reducible rfl
      refine wpAny_take (i := 5) (v := ?v5) rfl (by kernel_rfl) (by kernel_rfl) (by kernel_rfl) (fun _ _ _ h => h) (Or.inl ⟨by rfl, ?y5⟩) ?_
      case y5 => intro w; go_simp; try with_reducible rfl
      refine wpAny_take (i := 6) (v := ?v6) rfl (by kernel_rfl) (by kernel_rfl) (by kernel_rfl) (fun _ _ _ h => h) (Or.inl ⟨by rfl, ?y6⟩) ?_
      case y6 => intro w; go_simp; try with_reducible rfl
      refine wpAny_ready (rs := [3, 4]) (by kernel_rfl) (by simp) ?_
      refine AllReady.cons rfl (fun K hK => ?_) ?_
      · go_simp
        refine (node_any T0.out level i).mono ?_
        rintro e w3 ⟨rfl, n3, rfl⟩
        have X1 := Lib.hid (X0.out.below (below_drewN (Below.refl _ _) n3))
        have T1 := Lib.hid (T0.out.below (below_drewN (Below.refl _ _) n3))
        have B1 := Lib.hid (B0.out.trans (Below.mono (below_drewN (Below.refl _ _) n3) B0.out.size))
        clear X0 T0 B0
        generalize World.drewN _ n3 = W3z at X1 T1 B1 ⊢
        refine hK _ _ ?_
        clear hK K
        refine wpAny_ready (rs := [4]) (by kernel_rfl) (by simp) ?_
        refine AllReady.cons rfl (fun K hK => ?_) ?_
        · refine step_load_on (by rfl) (.tmp 11) rfl (w6.heap.size) (by first | (simp [Act.eval]; done) | simp [Act.eval, Act.put]) x X1.out ?_
          go_simp
          refine hK _ _ ?_
          clear hK K
          refine wpAny_ready (rs := [7]) (by kernel_rfl) (by simp) ?_
          refine AllReady.cons rfl (fun K hK => ?_) ?_
          · go_simp
            refine (NI.out _).mono ?_
            rintro e w7 ⟨rfl, hb7⟩
            have X2 := Lib.hid (X1.out.below hb7)
            have T2 := Lib.hid (T1.out.below hb7)
            have B2 := Lib.hid (B1.out.trans (Below.mono hb7 B1.out.size))
            clear X1 T1 B1
            clear hb7
            refine hK _ _ ?_
            clear hK K
            refine wpAny_ready (rs := [8]) (by kernel_rfl) (by simp) ?_
            refine AllReady.cons rfl (fun K hK => ?_) ?_
            · go_simp
              refine hK _ _ ?_
              clear hK K
              refine wpAny_ready (rs := [9]) (by kernel_rfl) (by simp) ?_
              refine AllReady.cons rfl (fun K hK => ?_) ?_
              · go_simp
                refine hK _ _ ?_
                clear hK K
                refine wpAny_take (i := 10) (v := ?v10) rfl (by kernel_rfl) (by kernel_rfl) (by kernel_rfl) (fun _ _ _ h => h) (Or.inl ⟨by rfl, ?y10⟩) ?_
                case y10 => intro w; go_simp; try with_reducible rfl
                refine wpAny_ready (rs := [11, 12]) (by kernel_rfl) (by simp) ?_
                refine AllReady.cons rfl (fun K hK => ?_) ?_
                · go_simp
                  refine (root_any T2.out).mono ?_
                  rintro e w11 ⟨rfl, n11, rfl⟩
                  have X3 := Lib.hid (X2.out.below (below_drewN (Below.refl _ _) n11))
                  have T3 := Lib.hid (T2.out.below (below_drewN (Below.refl _ _) n11))
                  have B3 := Lib.hid (B2.out.trans (Below.mono (below_drewN (Below.refl _ _) n11) B2.out.size))
                  clear X2 T2 B2
                  generalize World.drewN _ n11 = W11z at X3 T3 B3 ⊢
                  refine hK _ _ ?_
                  clear hK K
                  refine wpAny_ready (rs := [12]) (by kernel_rfl) (by simp) ?_
                  refine AllReady.cons rfl (fun K hK => ?_) ?_
                  · refine step_load_on (by rfl) (.tmp 11) rfl (w6.heap.size) (by first | (simp [Act.eval]; done) | simp [Act.eval, Act.put]) x X3.out ?_
                    go_simp
                    refine hK _ _ ?_
                    clear hK K
                    refine wpAny_ready (rs := [13]) (by kernel_rfl) (by simp) ?_
                    refine AllReady.cons rfl (fun K hK => ?_) ?_
                    · go_simp
                      refine (NR.out _).mono ?_
                      rintro e w13 ⟨rfl, hb13⟩
                      have X4 := Lib.hid (X3.out.below hb13)
                      have T4 := Lib.hid (T3.out.below hb13)
                      have B4 := Lib.hid (B3.out.trans (Below.mono hb13 B3.out.size))
                      clear X3 T3 B3
                      clear hb13
                      refine hK _ _ ?_
                      clear hK K
                      refine wpAny_ready (rs := [14]) (by kernel_rfl) (by simp) ?_
                      refine AllReady.cons rfl (fun K hK => ?_) ?_
                      · go_simp
                        refine hK _ _ ?_
                        clear hK K
                        refine wpAny_ready (rs := [15]) (by kernel_rfl) (by simp) ?_
                        refine AllReady.cons rfl (fun K hK => ?_) ?_
                        · go_simp
                          refine hK _ _ ?_
                          clear hK K
                          refine wpAny_ready (rs := [16]) (by kernel_rfl) (by simp) ?_
                          refine AllReady.cons rfl (fun K hK => ?_) ?_
                          · go_simp
                            refine hK _ _ ?_
                            clear hK K
                            refine wpAny_take (i := 17) (v := ?v17) rfl (by kernel_rfl) (by kernel_rfl) (by kernel_rfl) (fun _ _ _ h => h) (Or.inl ⟨by rfl, ?y17⟩) ?_
                            case y17 => intro w; go_simp; try with_reducible rfl
                            refine wpAny_take (i := 19) (v := ?v19) rfl (by kernel_rfl) (by kernel_rfl) (by kernel_rfl) (fun _ _ _ h => h) (Or.inl ⟨by rfl, ?y19⟩) ?_
                            case y19 => intro w; go_simp; try with_reducible rfl
                            refine wpAny_ready (rs := [18]) (by kernel_rfl) (by simp) ?_
                            refine AllReady.cons rfl (fun K hK => ?_) ?_
                            · go_simp
                              refine (leaves_any T4.out).mono ?_
                              rintro e w18 ⟨v18, rfl, hi18, hb18⟩
                              have X5 := Lib.hid (X4.out.below hb18)
                              have T5 := Lib.hid (T4.out.below hb18)
                              have B5 := Lib.hid (B4.out.trans (Below.mono hb18 B4.out.size))
                              clear X4 T4 B4
                              refine hK _ _ ?_
                              clear hK K
                              refine wpAny_ready (rs := [20]) (by kernel_rfl) (by simp) ?_
                              refine AllReady.cons rfl (fun K hK => ?_) ?_
                              · go_simp
                                refine (same21_any hi18 (irow_arr X5.out) (by rw [leavesOf_len]; decide)).mono ?_
                                rw [decide_eq_true (Eq.refl (leavesOf x))]
                                rintro e w20 ⟨rfl, n20, rfl⟩
                                have BE := Lib.hid (below_drewN B5.out n20)
                                clear hi18
                                refine hK _ _ ?_
                                clear hK K
                                refine wpAny_ready (rs := [21]) (by kernel_rfl) (by simp) ?_
                                refine AllReady.cons rfl (fun K hK => ?_) ?_
                                · go_simp
                                  refine hK _ _ ?_
                                  clear hK K
                                  refine wpAny_ready (rs := [22]) (by kernel_rfl) (by simp) ?_
                                  refine AllReady.cons rfl (fun K hK => ?_) ?_
                                  · go_simp
                                    refine hK _ _ ?_
                                    clear hK K
                                    refine wpAny_done (by kernel_rfl) ?_ _
                                    go_wp2
                                    go_meet
                                    exact ⟨rfl, BE.out⟩
                                  exact AllReady.nil
                                exact AllReady.nil
                              exact AllReady.nil
                            exact AllReady.nil
                          exact AllReady.nil
                        exact AllReady.nil
                      exact AllReady.nil
                    exact AllReady.nil
                  exact AllReady.nil
                refine AllReady.cons rfl (fun K hK => ?_) ?_
                · refine step_load_on (by rfl) (.tmp 11) rfl (w6.heap.size) (by first | (simp [Act.eval]; done) | simp [Act.eval, Act.put]) x X2.out ?_
                  go_simp
                  refine hK _ _ ?_
                  clear hK K
                  refine wpAny_ready (rs := [11]) (by kernel_rfl) (by simp) ?_
                  refine AllReady.cons rfl (fun K hK => ?_) ?_
                  · go_simp
                    refine (root_any T2.out).mono ?_
                    rintro e w11 ⟨rfl, n11, rfl⟩
                    have X3 := Lib.hid (X2.out.below (below_drewN (Below.refl _ _) n11))
                    have T3 := Lib.hid (T2.out.below (below_drewN (Below.refl _ _) n11))
                    have B3 := Lib.hid (B2.out.trans (Below.mono (below_drewN (Below.refl _ _) n11) B2.out.size))
                    clear X2 T2 B2
                    generalize World.drewN _ n11 = W11z at X3 T3 B3 ⊢
                    refine hK _ _ ?_
                    clear hK K
                    refine wpAny_ready (rs := [13]) (by kernel_rfl) (by simp) ?_
                    refine AllReady.cons rfl (fun K hK => ?_) ?_
                    · go_simp
                      refine (NR.out _).mono ?_
                      rintro e w13 ⟨rfl, hb13⟩
                      have X4 := Lib.hid (X3.out.below hb13)
                      have T4 := Lib.hid (T3.out.below hb13)
                      have B4 := Lib.hid (B3.out.trans (Below.mono hb13 B3.out.size))
                      clear X3 T3 B3
                      clear hb13
                      refine hK _ _ ?_
                      clear hK K
                      refine wpAny_ready (rs := [14]) (by kernel_rfl) (by simp) ?_
                      refine AllReady.cons rfl (fun K hK => ?_) ?_
                      · go_simp
                        refine hK _ _ ?_
                        clear hK K
                        refine wpAny_ready (rs := [15]) (by kernel_rfl) (by simp) ?_
                        refine AllReady.cons rfl (fun K hK => ?_) ?_
                        · go_simp
                          refine hK _ _ ?_
                          clear hK K
                          refine wpAny_ready (rs := [16]) (by kernel_rfl) (by simp) ?_
                          refine AllReady.cons rfl (fun K hK => ?_) ?_
                          · go_simp
                            refine hK _ _ ?_
                            clear hK K
                            refine wpAny_take (i := 17) (v := ?v17) rfl (by kernel_rfl) (by kernel_rfl) (by kernel_rfl) (fun _ _ _ h => h) (Or.inl ⟨by rfl, ?y17⟩) ?_
                            case y17 => intro w; go_simp; try with_reducible rfl
                            refine wpAny_take (i := 19) (v := ?v19) rfl (by kernel_rfl) (by kernel_rfl) (by kernel_rfl) (fun _ _ _ h => h) (Or.inl ⟨by rfl, ?y19⟩) ?_
                            case y19 => intro w; go_simp; try with_reducible rfl
                            refine wpAny_ready (rs := [18]) (by kernel_rfl) (by simp) ?_
                            refine AllReady.cons rfl (fun K hK => ?_) ?_
                            · go_simp
                              refine (leaves_any T4.out).mono ?_
                              rintro e w18 ⟨v18, rfl, hi18, hb18⟩
                              have X5 := Lib.hid (X4.out.below hb18)
                              have T5 := Lib.hid (T4.out.below hb18)
                              have B5 := Lib.hid (B4.out.trans (Below.mono hb18 B4.out.size))
                              clear X4 T4 B4
                              refine hK _ _ ?_
                              clear hK K
                              refine wpAny_ready (rs := [20]) (by kernel_rfl) (by simp) ?_
                              refine AllReady.cons rfl (fun K hK => ?_) ?_
                              · go_simp
                                refine (same21_any hi18 (irow_arr X5.out) (by rw [leavesOf_len]; decide)).mono ?_
                                rw [decide_eq_true (Eq.refl (leavesOf x))]
                                rintro e w20 ⟨rfl, n20, rfl⟩
                                have BE := Lib.hid (below_drewN B5.out n20)
                                clear hi18
                                refine hK _ _ ?_
                                clear hK K
                                refine wpAny_ready (rs := [21]) (by kernel_rfl) (by simp) ?_
                                refine AllReady.cons rfl (fun K hK => ?_) ?_
                                · go_simp
                                  refine hK _ _ ?_
                                  clear hK K
                                  refine wpAny_ready (rs := [22]) (by kernel_rfl) (by simp) ?_
                                  refine AllReady.cons rfl (fun K hK => ?_) ?_
                                  · go_simp
                                    refine hK _ _ ?_
                                    clear hK K
                                    refine wpAny_done (by kernel_rfl) ?_ _
                                    go_wp2
                                    go_meet
                                    exact ⟨rfl, BE.out⟩
                                  exact AllReady.nil
                                exact AllReady.nil
                              exact AllReady.nil
                            exact AllReady.nil
                          exact AllReady.nil
                        exact AllReady.nil
                      exact AllReady.nil
                    exact AllReady.nil
                  exact AllReady.nil
                exact AllReady.nil
              exact AllReady.nil
            exact AllReady.nil
          exact AllReady.nil
        exact AllReady.nil
      refine AllReady.cons rfl (fun K hK => ?_) ?_
      · refine step_load_on (by rfl) (.tmp 11) rfl (w6.heap.size) (by first | (simp [Act.eval]; done) | simp [Act.eval, Act.put]) x X0.out ?_
        go_simp
        refine hK _ _ ?_
        clear hK K
        refine wpAny_ready (rs := [3]) (by kernel_rfl) (by simp) ?_
        refine AllReady.cons rfl (fun K hK => ?_) ?_
        · go_simp
          refine (node_any T0.out level i).mono ?_
          rintro e w3 ⟨rfl, n3, rfl⟩
          have X1 := Lib.hid (X0.out.below (below_drewN (Below.refl _ _) n3))
          have T1 := Lib.hid (T0.out.below (below_drewN (Below.refl _ _) n3))
          have B1 := Lib.hid (B0.out.trans (Below.mono (below_drewN (Below.refl _ _) n3) B0.out.size))
          clear X0 T0 B0
          generalize World.drewN _ n3 = W3z at X1 T1 B1 ⊢
          refine hK _ _ ?_
          clear hK K
          refine wpAny_ready (rs := [7]) (by kernel_rfl) (by simp) ?_
          refine AllReady.cons rfl (fun K hK => ?_) ?_
          · go_simp
            refine (NI.out _).mono ?_
            rintro e w7 ⟨rfl, hb7⟩
            have X2 := Lib.hid (X1.out.below hb7)
            have T2 := Lib.hid (T1.out.below hb7)
            have B2 := Lib.hid (B1.out.trans (Below.mono hb7 B1.out.size))
            clear X1 T1 B1
            clear hb7
            refine hK _ _ ?_
            clear hK K
            refine wpAny_ready (rs := [8]) (by kernel_rfl) (by simp) ?_
            refine AllReady.cons rfl (fun K hK => ?_) ?_
            · go_simp
              refine hK _ _ ?_
              clear hK K
              refine wpAny_ready (rs := [9]) (by kernel_rfl) (by simp) ?_
              refine AllReady.cons rfl (fun K hK => ?_) ?_
              · go_simp
                refine hK _ _ ?_
                clear hK K
                refine wpAny_take (i := 10) (v := ?v10) rfl (by kernel_rfl) (by kernel_rfl) (by kernel_rfl) (fun _ _ _ h => h) (Or.inl ⟨by rfl, ?y10⟩) ?_
                case y10 => intro w; go_simp; try with_reducible rfl
                refine wpAny_ready (rs := [11, 12]) (by kernel_rfl) (by simp) ?_
                refine AllReady.cons rfl (fun K hK => ?_) ?_
                · go_simp
                  refine (root_any T2.out).mono ?_
                  rintro e w11 ⟨rfl, n11, rfl⟩
                  have X3 := Lib.hid (X2.out.below (below_drewN (Below.refl _ _) n11))
                  have T3 := Lib.hid (T2.out.below (below_drewN (Below.refl _ _) n11))
                  have B3 := Lib.hid (B2.out.trans (Below.mono (below_drewN (Below.refl _ _) n11) B2.out.size))
                  clear X2 T2 B2
                  generalize World.drewN _ n11 = W11z at X3 T3 B3 ⊢
                  refine hK _ _ ?_
                  clear hK K
                  refine wpAny_ready (rs := [12]) (by kernel_rfl) (by simp) ?_
                  refine AllReady.cons rfl (fun K hK => ?_) ?_
                  · refine step_load_on (by rfl) (.tmp 11) rfl (w6.heap.size) (by first | (simp [Act.eval]; done) | simp [Act.eval, Act.put]) x X3.out ?_
                    go_simp
                    refine hK _ _ ?_
                    clear hK K
                    refine wpAny_ready (rs := [13]) (by kernel_rfl) (by simp) ?_
                    refine AllReady.cons rfl (fun K hK => ?_) ?_
                    · go_simp
                      refine (NR.out _).mono ?_
                      rintro e w13 ⟨rfl, hb13⟩
                      have X4 := Lib.hid (X3.out.below hb13)
                      have T4 := Lib.hid (T3.out.below hb13)
                      have B4 := Lib.hid (B3.out.trans (Below.mono hb13 B3.out.size))
                      clear X3 T3 B3
                      clear hb13
                      refine hK _ _ ?_
                      clear hK K
                      refine wpAny_ready (rs := [14]) (by kernel_rfl) (by simp) ?_
                      refine AllReady.cons rfl (fun K hK => ?_) ?_
                      · go_simp
                        refine hK _ _ ?_
                        clear hK K
                        refine wpAny_ready (rs := [15]) (by kernel_rfl) (by simp) ?_
                        refine AllReady.cons rfl (fun K hK => ?_) ?_
                        · go_simp
                          refine hK _ _ ?_
                          clear hK K
                          refine wpAny_ready (rs := [16]) (by kernel_rfl) (by simp) ?_
                          refine AllReady.cons rfl (fun K hK => ?_) ?_
                          · go_simp
                            refine hK _ _ ?_
                            clear hK K
                            refine wpAny_take (i := 17) (v := ?v17) rfl (by kernel_rfl) (by kernel_rfl) (by kernel_rfl) (fun _ _ _ h => h) (Or.inl ⟨by rfl, ?y17⟩) ?_
                            case y17 => intro w; go_simp; try with_reducible rfl
                            refine wpAny_take (i := 19) (v := ?v19) rfl (by kernel_rfl) (by kernel_rfl) (by kernel_rfl) (fun _ _ _ h => h) (Or.inl ⟨by rfl, ?y19⟩) ?_
                            case y19 => intro w; go_simp; try with_reducible rfl
                            refine wpAny_ready (rs := [18]) (by kernel_rfl) (by simp) ?_
                            refine AllReady.cons rfl (fun K hK => ?_) ?_
                            · go_simp
                              refine (leaves_any T4.out).mono ?_
                              rintro e w18 ⟨v18, rfl, hi18, hb18⟩
                              have X5 := Lib.hid (X4.out.below hb18)
                              have T5 := Lib.hid (T4.out.below hb18)
                              have B5 := Lib.hid (B4.out.trans (Below.mono hb18 B4.out.size))
                              clear X4 T4 B4
                              refine hK _ _ ?_
                              clear hK K
                              refine wpAny_ready (rs := [20]) (by kernel_rfl) (by simp) ?_
                              refine AllReady.cons rfl (fun K hK => ?_) ?_
                              · go_simp
                                refine (same21_any hi18 (irow_arr X5.out) (by rw [leavesOf_len]; decide)).mono ?_
                                rw [decide_eq_true (Eq.refl (leavesOf x))]
                                rintro e w20 ⟨rfl, n20, rfl⟩
                                have BE := Lib.hid (below_drewN B5.out n20)
                                clear hi18
                                refine hK _ _ ?_
                                clear hK K
                                refine wpAny_ready (rs := [21]) (by kernel_rfl) (by simp) ?_
                                refine AllReady.cons rfl (fun K hK => ?_) ?_
                                · go_simp
                                  refine hK _ _ ?_
                                  clear hK K
                                  refine wpAny_ready (rs := [22]) (by kernel_rfl) (by simp) ?_
                                  refine AllReady.cons rfl (fun K hK => ?_) ?_
                                  · go_simp
                                    refine hK _ _ ?_
                                    clear hK K
                                    refine wpAny_done (by kernel_rfl) ?_ _
                                    go_wp2
                                    go_meet
                                    exact ⟨rfl, BE.out⟩
                                  exact AllReady.nil
                                exact AllReady.nil
                              exact AllReady.nil
                            exact AllReady.nil
                          exact AllReady.nil
                        exact AllReady.nil
                      exact AllReady.nil
                    exact AllReady.nil
                  exact AllReady.nil
                refine AllReady.cons rfl (fun K hK => ?_) ?_
                · refine step_load_on (by rfl) (.tmp 11) rfl (w6.heap.size) (by first | (simp [Act.eval]; done) | simp [Act.eval, Act.put]) x X2.out ?_
                  go_simp
                  refine hK _ _ ?_
                  clear hK K
                  refine wpAny_ready (rs := [11]) (by kernel_rfl) (by simp) ?_
                  refine AllReady.cons rfl (fun K hK => ?_) ?_
                  · go_simp
                    refine (root_any T2.out).mono ?_
                    rintro e w11 ⟨rfl, n11, rfl⟩
                    have X3 := Lib.hid (X2.out.below (below_drewN (Below.refl _ _) n11))
                    have T3 := Lib.hid (T2.out.below (below_drewN (Below.refl _ _) n11))
                    have B3 := Lib.hid (B2.out.trans (Below.mono (below_drewN (Below.refl _ _) n11) B2.out.size))
                    clear X2 T2 B2
                    generalize World.drewN _ n11 = W11z at X3 T3 B3 ⊢
                    refine hK _ _ ?_
                    clear hK K
                    refine wpAny_ready (rs := [13]) (by kernel_rfl) (by simp) ?_
                    refine AllReady.cons rfl (fun K hK => ?_) ?_
                    · go_simp
                      refine (NR.out _).mono ?_
                      rintro e w13 ⟨rfl, hb13⟩
                      have X4 := Lib.hid (X3.out.below hb13)
                      have T4 := Lib.hid (T3.out.below hb13)
                      have B4 := Lib.hid (B3.out.trans (Below.mono hb13 B3.out.size))
                      clear X3 T3 B3
                      clear hb13
                      refine hK _ _ ?_
                      clear hK K
                      refine wpAny_ready (rs := [14]) (by kernel_rfl) (by simp) ?_
                      refine AllReady.cons rfl (fun K hK => ?_) ?_
                      · go_simp
                        refine hK _ _ ?_
                        clear hK K
                        refine wpAny_ready (rs := [15]) (by kernel_rfl) (by simp) ?_
                        refine AllReady.cons rfl (fun K hK => ?_) ?_
                        · go_simp
                          refine hK _ _ ?_
                          clear hK K
                          refine wpAny_ready (rs := [16]) (by kernel_rfl) (by simp) ?_
                          refine AllReady.cons rfl (fun K hK => ?_) ?_
                          · go_simp
                            refine hK _ _ ?_
                            clear hK K
                            refine wpAny_take (i := 17) (v := ?v17) rfl (by kernel_rfl) (by kernel_rfl) (by kernel_rfl) (fun _ _ _ h => h) (Or.inl ⟨by rfl, ?y17⟩) ?_
                            case y17 => intro w; go_simp; try with_reducible rfl
                            refine wpAny_take (i := 19) (v := ?v19) rfl (by kernel_rfl) (by kernel_rfl) (by kernel_rfl) (fun _ _ _ h => h) (Or.inl ⟨by rfl, ?y19⟩) ?_
                            case y19 => intro w; go_simp; try with_reducible rfl
                            refine wpAny_ready (rs := [18]) (by kernel_rfl) (by simp) ?_
                            refine AllReady.cons rfl (fun K hK => ?_) ?_
                            · go_simp
                              refine (leaves_any T4.out).mono ?_
                              rintro e w18 ⟨v18, rfl, hi18, hb18⟩
                              have X5 := Lib.hid (X4.out.below hb18)
                              have T5 := Lib.hid (T4.out.below hb18)
                              have B5 := Lib.hid (B4.out.trans (Below.mono hb18 B4.out.size))
                              clear X4 T4 B4
                              refine hK _ _ ?_
                              clear hK K
                              refine wpAny_ready (rs := [20]) (by kernel_rfl) (by simp) ?_
                              refine AllReady.cons rfl (fun K hK => ?_) ?_
                              · go_simp
                                refine (same21_any hi18 (irow_arr X5.out) (by rw [leavesOf_len]; decide)).mono ?_
                                rw [decide_eq_true (Eq.refl (leavesOf x))]
                                rintro e w20 ⟨rfl, n20, rfl⟩
                                have BE := Lib.hid (below_drewN B5.out n20)
                                clear hi18
                                refine hK _ _ ?_
                                clear hK K
                                refine wpAny_ready (rs := [21]) (by kernel_rfl) (by simp) ?_
                                refine AllReady.cons rfl (fun K hK => ?_) ?_
                                · go_simp
                                  refine hK _ _ ?_
                                  clear hK K
                                  refine wpAny_ready (rs := [22]) (by kernel_rfl) (by simp) ?_
                                  refine AllReady.cons rfl (fun K hK => ?_) ?_
                                  · go_simp
                                    refine hK _ _ ?_
                                    clear hK K
                                    refine wpAny_done (by kernel_rfl) ?_ _
                                    go_wp2
                                    go_meet
                                    exact ⟨rfl, BE.out⟩
                                  exact AllReady.nil
                                exact AllReady.nil
                              exact AllReady.nil
                            exact AllReady.nil
                          exact AllReady.nil
                        exact AllReady.nil
                      exact AllReady.nil
                    exact AllReady.nil
                  exact AllReady.nil
                exact AllReady.nil
              exact AllReady.nil
            exact AllReady.nil
          exact AllReady.nil
        exact AllReady.nil
      exact AllReady.nil
    case rest =>
      obtain ⟨rfl, hb⟩ := hcut
      have BE := Lib.hid hb
      clear hb
      go_wp2_with fail
      go_ret
      exact ⟨rfl, BE.out⟩
end Go.Proofs.Ytibgfmkgojeefaa
