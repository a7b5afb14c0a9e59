/- The walk of TreeWalks. Conditions: the rows lie as Go's slices do. -/
import Derived.Test.YtibgfmkgojeefaaY
namespace Go.Proofs.Ytibgfmkgojeefaa
open Go.RowKit Go.Maps Go.WideMaps Go.ChangeShapes Go.WideShapes Go.Deep

theorem step_load_on {ops : Array Oper} {o : Oper} {a : Act} {w : World} {K : Act → World → Prop} {Q : Exit → Act → World → Prop} {E : Prop} (hw : Region.wanted o (yielded ops a.tmps) = true) (x : Operand) (ho : o.op = .load 27 x)
    (g : Nat) (hx : a.eval x = .pointer (some ⟨g, 0, none⟩)) (m : Nat → Nat) (hg : ArrAt w g m)
    (h : K (a.put o.dst (.agg (arr m))) w) : if Region.wanted o (yielded ops a.tmps) = true then Oper.wp Try.prog o a w K Q else E := by
  rw [if_pos hw]
  exact wp_load_row 27 x ho g hx 27 (arr m) (0, 0) _ hg.blk Try.underlying27 rfl (info27 m) h
set_option maxRecDepth 100000 in
set_option maxHeartbeats 4000000 in
theorem treeWalks_walk (a : Option Addr) (len cap : Nat) (L : List FlipV) (a2 : Option Addr) (len2 cap2 : Nat) (L2 : List FlipV) (w : World) (hrow : RowOf cells39 2 ok39 w a len cap L) (hr : len * 16 ≤ 140737488351232) (hrow2 : RowOf cells39 2 ok39 w a2 len2 cap2 L2) (hr2 : len2 * 16 ≤ 140737488351232) :
    Calls Try.prog 4 #[.slice a len cap, .slice a2 len2 cap2] w fun e w' => TruePost w e w' := by
  have HR := Lib.hid hrow
  have HR2 := Lib.hid hrow2
  clear hrow hrow2
  have hb27 := build27
  go_enter Try.func4, Try.ntmps4
  go_wp2_with fail
  refine (new_any _).mono ?_
  rintro e w1 ⟨t, rfl, ht, htn, hb1⟩
  have HT := Lib.hid ht
  have TN := Lib.hid htn
  have B1 := Lib.hid hb1
  clear ht htn hb1
  go_wp2_with fail
  refine (new_any w1).mono ?_
  rintro e w2 ⟨u, rfl, hu, hun, hb2⟩
  have HTU : Hid (t ≠ u) := Lib.hid (by have := HT.out.lt; omega)
  have UN : Hid (w.heap.size ≤ u) := Lib.hid (Nat.le_trans B1.out.size hun)
  have HT2 := Lib.hid (HT.out.below hb2)
  have HU := Lib.hid hu
  have B2 := Lib.hid (B1.out.trans (hb2.mono B1.out.size))
  clear hu hun hb2 HT B1
  go_wp2_with fail
  refine (fixed_any w2).mono ?_
  rintro e w4 ⟨rfl, hb4⟩
  have HT4 := Lib.hid (HT2.out.below hb4)
  have HU4 := Lib.hid (HU.out.below hb4)
  have B4 := Lib.hid (B2.out.trans (hb4.mono B2.out.size))
  clear hb4 HT2 HU B2
  have hfl := flips_any HT4.out a len cap L (HR.out.below B4.out) hr (row_away HR.out TN.out)
  have HFL := Lib.hid hfl
  clear hfl
  go_wp2_with fail
  refine (HFL.out).mono ?_
  rintro e w5 ⟨rfl, ht5, hg5⟩
  have HT5 := Lib.hid ht5
  have HU5 := Lib.hid (HU4.out.other hg5 (fun e => HTU.out e.symm))
  have B5 := Lib.hid (below_grown B4.out hg5 B4.out.size TN.out)
  clear ht5 hg5 HT4 HU4 B4 HFL
  have hfl := flips_any HU5.out a2 len2 cap2 L2 (HR2.out.below B5.out) hr2 (row_away HR2.out UN.out)
  have HFL := Lib.hid hfl
  clear hfl
  go_wp2_with fail
  refine (HFL.out).mono ?_
  rintro e w6 ⟨rfl, hu6, hg6⟩
  have HU6 := Lib.hid hu6
  have HT6 := Lib.hid (HT5.out.other hg6 HTU.out)
  have B6 := Lib.hid (below_grown B5.out hg6 B5.out.size UN.out)
  clear hu6 hg6 HT5 HU5 B5 HFL
  obtain ⟨x, hx⟩ : ∃ x, x = flips (fun _ => 0) (L.take 101) := ⟨_, rfl⟩
  obtain ⟨y, hy⟩ : ∃ y, y = flips (fun _ => 0) (L2.take 101) := ⟨_, rfl⟩
  have hxl : ∀ j, x j < 2 ^ 64 := by rw [hx]; exact flips_lt (fun f hf => (HR.out.good f (List.mem_of_mem_take hf)).2.2) (fun _ => by decide)
  have hyl : ∀ j, y j < 2 ^ 64 := by rw [hy]; exact flips_lt (fun f hf => (HR2.out.good f (List.mem_of_mem_take hf)).2.2) (fun _ => by decide)
  rw [← hx] at HT6 ⊢
  rw [← hy] at HU6 ⊢
  have XL := Lib.hid hxl
  have YL := Lib.hid hyl
  clear hx hy hxl hyl HR HR2
  have z1 : ArrAt ((w6.alloc (.cells (arr (fun _ => 0)) 27)).alloc (.cells (arr (fun _ => 0)) 27)) w6.heap.size (fun _ => 0) := ⟨by rw [Below.heap_alloc _ _ _ (by rw [st_size]; omega)]; exact heap_alloc_new _ _⟩
  have z2 : ArrAt (((w6.alloc (.cells (arr (fun _ => 0)) 27)).alloc (.cells (arr (fun _ => 0)) 27)).setRow w6.heap.size (arr x)) (w6.heap.size + 1) (fun _ => 0) := ⟨by
    rw [setRow_other _ _ _ _ (by omega)]
    have h := heap_alloc_new (w6.alloc (.cells (arr (fun _ => 0)) 27)) (.cells (arr (fun _ => 0)) 27)
    rw [st_size] at h
    exact h⟩
  have Z1 := Lib.hid z1
  have Z2 := Lib.hid z2
  clear z1 z2
  obtain ⟨W7, hW7⟩ : ∃ W7, W7 = ((((w6.alloc (.cells (arr (fun _ => 0)) 27)).alloc (.cells (arr (fun _ => 0)) 27)).setRow w6.heap.size (arr x)).setRow (w6.heap.size + 1) (arr y)) := ⟨_, rfl⟩
  have bz : Below w6.heap.size w6 W7 := by
    rw [hW7]
    exact below_setRow (below_setRow (((Below.refl _ _).alloc (Nat.le_refl _) _).alloc (by simp) _) (Nat.le_refl _) _) (Nat.le_succ _) _
  have X7 : Hid (ArrAt W7 w6.heap.size x) := Lib.hid ⟨by rw [hW7, setRow_other _ _ _ _ (by omega)]; exact (Z1.out.stored).blk⟩
  have Y7 : Hid (ArrAt W7 (w6.heap.size + 1) y) := Lib.hid ⟨by rw [hW7]; exact (Z2.out.stored).blk⟩
  have HT7 := Lib.hid (HT6.out.below bz)
  have HU7 := Lib.hid (HU6.out.below bz)
  have B7 := Lib.hid (B6.out.trans (bz.mono B6.out.size))
  have HW7 := Lib.hid hW7
  clear bz hW7
  go_wp2_with (first
    | (refine wpList_store_row rfl 27 _ _ rfl w6.heap.size (arr x) rfl rfl 27 _ Z1.out.blk (info27 _) (by rw [arr_size, arr_size]) (arr_one _) ?_)
    | (refine wpList_store_row rfl 27 _ _ rfl (w6.heap.size + 1) (arr y) rfl rfl 27 _ Z2.out.blk (info27 _) (by rw [arr_size, arr_size]) (arr_one _) ?_)
    | fail)
  rw [← HW7.out]
  clear HW7 Z1 Z2 HT6 HU6 B6
  have hw := walk_any HT7.out HU7.out
  have HW := Lib.hid hw
  clear hw
  refine (HW.out).mono ?_
  rintro e w9 ⟨r, rfl, hown, hb9⟩
  have X9 := Lib.hid (X7.out.below hb9)
  have Y9 := Lib.hid (Y7.out.below hb9)
  have HT9 := Lib.hid (HT7.out.below hb9)
  have HU9 := Lib.hid (HU7.out.below hb9)
  have B9 := Lib.hid (B7.out.trans (hb9.mono B7.out.size))
  have IR := Lib.hid (irow_of_own hown)
  clear hown hb9 HW X7 Y7 HT7 HU7 B7
  have hu27 := Try.underlying27
  go_wp2_with (first
    | (refine wpList_load_row rfl 27 _ rfl w6.heap.size rfl 27 _ (0, 0) _ X9.out.blk hu27 rfl (info27 _) ?_)
    | (refine wpList_load_row rfl 27 _ rfl (w6.heap.size + 1) rfl 27 _ (0, 0) _ Y9.out.blk hu27 rfl (info27 _) ?_)
    | fail)
  refine (walk14_root x y XL.out YL.out w9).mono ?_
  rintro e w10 ⟨g10, c10, rfl, hown, hb10⟩
  have X10 := Lib.hid (X9.out.below hb10)
  have Y10 := Lib.hid (Y9.out.below hb10)
  have HT10 := Lib.hid (HT9.out.below hb10)
  have HU10 := Lib.hid (HU9.out.below hb10)
  have B10 := Lib.hid (B9.out.trans (hb10.mono B9.out.size))
  have hsame := same15_any (w := w10.drew) ((IR.out.below hb10).drewN 1) ((irow_of_own hown).drewN 1) (Nat.le_trans (found_len x y) (by decide))
  rw [decide_eq_true (Eq.refl (found x y))] at hsame
  have HS := Lib.hid hsame
  clear hown hb10 IR hsame X9 Y9 HT9 HU9 B9
  go_wp2_with fail
  go_cut [4] (fun v wx => v = .bool true ∧ Below w.heap.size w wx)
  case first =>
    refine wp_region_any (by kernel_rfl) ?_
    change wpAny _ _ _ _ _ _ _ (World.drew _)
    refine wpAny_take (i := 0) (v := ?v0) rfl (by kernel_rfl) (by kernel_rfl) (by kernel_rfl) (fun _ _ _ h => h) (Or.inl ⟨by rfl, ?y0⟩) ?_
    case y0 => intro w; go_simp; try with_reducible rfl
    refine wpAny_take (i := 1) (v := ?v1) rfl (by kernel_rfl) (by kernel_rfl) (by kernel_rfl) (fun _ _ _ h => h) (Or.inl ⟨by rfl, ?y1⟩) ?_
    case y1 => intro w; go_simp; try with_reducible rfl
    refine wpAny_ready (rs := [2]) (by kernel_rfl) (by simp) ?_
    refine AllReady.cons rfl (fun K hK => ?_) ?_
    · go_simp
      refine (HS.out).mono ?_
      rintro e w11 ⟨rfl, n11, rfl⟩
      have B11 : Hid (Below w.heap.size w ((w10.drew).drewN n11)) := Lib.hid (below_drewN B10.out.drew n11)
      have X11 : Hid (ArrAt ((w10.drew).drewN n11) w6.heap.size x) := Lib.hid ⟨X10.out.blk⟩
      have Y11 : Hid (ArrAt ((w10.drew).drewN n11) (w6.heap.size + 1) y) := Lib.hid ⟨Y10.out.blk⟩
      have HT11 : Hid (Tr ((w10.drew).drewN n11) t x) := Lib.hid (HT10.out.heap rfl)
      have HU11 : Hid (Tr ((w10.drew).drewN n11) u y) := Lib.hid (HU10.out.heap rfl)
      obtain ⟨wa, hwa⟩ : ∃ wa, wa = (w10.drew).drewN n11 := ⟨_, rfl⟩
      rw [← hwa] at X11 Y11 HT11 HU11 B11 ⊢
      clear hwa HS X10 Y10 HT10 HU10 B10
      refine hK _ _ ?_
      clear hK K
      refine wpAny_ready (rs := [3]) (by kernel_rfl) (by simp) ?_
      refine AllReady.cons rfl (fun K hK => ?_) ?_
      · go_simp
        refine hK _ _ ?_
        clear hK K
        refine wpAny_take (i := 4) (v := ?v4) rfl (by kernel_rfl) (by kernel_rfl) (by kernel_rfl) (fun _ _ _ h => h) (Or.inl ⟨by rfl, ?y4⟩) ?_
        case y4 => intro w; go_simp; try with_reducible rfl
        refine wpAny_take (i := 5) (v := ?v5) rfl (by kernel_rfl) (by kernel_rfl) (by kernel_rfl) (fun _ _ _ h => h) (Or.inl ⟨by rfl, ?y5⟩) ?_
        case y5 => intro w; go_simp; try with_reducible rfl
        refine wpAny_ready (rs := [6]) (by kernel_rfl) (by simp) ?_
        refine AllReady.cons rfl (fun K hK => ?_) ?_
        · go_simp
          refine hK _ _ ?_
          clear hK K
          refine wpAny_ready (rs := [7]) (by kernel_rfl) (by simp) ?_
          refine AllReady.cons rfl (fun K hK => ?_) ?_
          · go_simp
            refine hK _ _ ?_
            clear hK K
            refine wpAny_ready (rs := [8]) (by kernel_rfl) (by simp) ?_
            refine AllReady.cons rfl (fun K hK => ?_) ?_
            · go_simp
              refine hK _ _ ?_
              clear hK K
              refine wpAny_take (i := 9) (v := ?v9) rfl (by kernel_rfl) (by kernel_rfl) (by kernel_rfl) (fun _ _ _ h => h) (Or.inl ⟨by rfl, ?y9⟩) ?_
              case y9 => intro w; go_simp; try with_reducible rfl
              refine wpAny_take (i := 10) (v := ?v10) rfl (by kernel_rfl) (by kernel_rfl) (by kernel_rfl) (fun _ _ _ h => h) (Or.inl ⟨by rfl, ?y10⟩) ?_
              case y10 => intro w; go_simp; try with_reducible rfl
              refine wpAny_ready (rs := [11, 12, 13]) (by kernel_rfl) (by simp) ?_
              refine AllReady.cons rfl (fun K hK => ?_) ?_
              · go_simp
                refine (apart_any HT11.out HU11.out).mono ?_
                rintro e w20 ⟨v20, rfl, ho20, hb20⟩
                refine hK _ _ ?_
                clear hK K
                refine wpAny_ready (rs := [12, 13]) (by kernel_rfl) (by simp) ?_
                refine AllReady.cons rfl (fun K hK => ?_) ?_
                · refine step_load_on (by rfl) (.tmp 7) rfl (w6.heap.size) (by simp [Act.eval]) x (X11.out.below hb20) ?_
                  go_simp
                  refine hK _ _ ?_
                  clear hK K
                  refine wpAny_ready (rs := [13]) (by kernel_rfl) (by simp) ?_
                  refine AllReady.cons rfl (fun K hK => ?_) ?_
                  · refine step_load_on (by rfl) (.tmp 8) rfl (w6.heap.size + 1) (by simp [Act.eval]) y (Y11.out.below hb20) ?_
                    go_simp
                    refine hK _ _ ?_
                    clear hK K
                    refine wpAny_ready (rs := [14]) (by kernel_rfl) (by simp) ?_
                    refine AllReady.cons rfl (fun K hK => ?_) ?_
                    · go_simp
                      refine (apart17_any x y w20).mono ?_
                      rintro e w21 ⟨v21, rfl, ho21, hb21⟩
                      refine hK _ _ ?_
                      clear hK K
                      refine wpAny_ready (rs := [15]) (by kernel_rfl) (by simp) ?_
                      refine AllReady.cons rfl (fun K hK => ?_) ?_
                      · go_simp
                        refine (same15_any (irow_of_own (own_below ho20 hb21)) (irow_of_own ho21) (Nat.le_trans (apartOf_len x y 64) (by decide))).mono ?_
                        rintro e w22 ⟨rfl, n22, rfl⟩
                        rw [decide_eq_true (Eq.refl (apartOf x y 64))]
                        have BE := Lib.hid (below_drewN (B11.out.trans ((hb20.trans (hb21.mono hb20.size)).mono B11.out.size)) n22)
                        clear ho20 hb20 ho21 hb21
                        refine hK _ _ ?_
                        clear hK K
                        refine wpAny_ready (rs := [16]) (by kernel_rfl) (by simp) ?_
                        refine AllReady.cons rfl (fun K hK => ?_) ?_
                        · go_simp
                          refine hK _ _ ?_
                          clear hK K
                          refine wpAny_ready (rs := [17]) (by kernel_rfl) (by simp) ?_
                          refine AllReady.cons rfl (fun K hK => ?_) ?_
                          · go_simp
                            refine hK _ _ ?_
                            clear hK K
                            refine wpAny_done (by kernel_rfl) ?_ _
                            go_wp2
                            go_meet
                            exact ⟨rfl, BE.out⟩
                          exact AllReady.nil
                        exact AllReady.nil
                      exact AllReady.nil
                    exact AllReady.nil
                  exact AllReady.nil
                refine AllReady.cons rfl (fun K hK => ?_) ?_
                · refine step_load_on (by rfl) (.tmp 8) rfl (w6.heap.size + 1) (by simp [Act.eval]) y (Y11.out.below hb20) ?_
                  go_simp
                  refine hK _ _ ?_
                  clear hK K
                  refine wpAny_ready (rs := [12]) (by kernel_rfl) (by simp) ?_
                  refine AllReady.cons rfl (fun K hK => ?_) ?_
                  · refine step_load_on (by rfl) (.tmp 7) rfl (w6.heap.size) (by simp [Act.eval]) x (X11.out.below hb20) ?_
                    go_simp
                    refine hK _ _ ?_
                    clear hK K
                    refine wpAny_ready (rs := [14]) (by kernel_rfl) (by simp) ?_
                    refine AllReady.cons rfl (fun K hK => ?_) ?_
                    · go_simp
                      refine (apart17_any x y w20).mono ?_
                      rintro e w21 ⟨v21, rfl, ho21, hb21⟩
                      refine hK _ _ ?_
                      clear hK K
                      refine wpAny_ready (rs := [15]) (by kernel_rfl) (by simp) ?_
                      refine AllReady.cons rfl (fun K hK => ?_) ?_
                      · go_simp
                        refine (same15_any (irow_of_own (own_below ho20 hb21)) (irow_of_own ho21) (Nat.le_trans (apartOf_len x y 64) (by decide))).mono ?_
                        rintro e w22 ⟨rfl, n22, rfl⟩
                        rw [decide_eq_true (Eq.refl (apartOf x y 64))]
                        have BE := Lib.hid (below_drewN (B11.out.trans ((hb20.trans (hb21.mono hb20.size)).mono B11.out.size)) n22)
                        clear ho20 hb20 ho21 hb21
                        refine hK _ _ ?_
                        clear hK K
                        refine wpAny_ready (rs := [16]) (by kernel_rfl) (by simp) ?_
                        refine AllReady.cons rfl (fun K hK => ?_) ?_
                        · go_simp
                          refine hK _ _ ?_
                          clear hK K
                          refine wpAny_ready (rs := [17]) (by kernel_rfl) (by simp) ?_
                          refine AllReady.cons rfl (fun K hK => ?_) ?_
                          · go_simp
                            refine hK _ _ ?_
                            clear hK K
                            refine wpAny_done (by kernel_rfl) ?_ _
                            go_wp2
                            go_meet
                            exact ⟨rfl, BE.out⟩
                          exact AllReady.nil
                        exact AllReady.nil
                      exact AllReady.nil
                    exact AllReady.nil
                  exact AllReady.nil
                exact AllReady.nil
              refine AllReady.cons rfl (fun K hK => ?_) ?_
              · refine step_load_on (by rfl) (.tmp 7) rfl (w6.heap.size) (by simp [Act.eval, Act.put]) x X11.out ?_
                go_simp
                refine hK _ _ ?_
                clear hK K
                refine wpAny_ready (rs := [11, 13]) (by kernel_rfl) (by simp) ?_
                refine AllReady.cons rfl (fun K hK => ?_) ?_
                · go_simp
                  refine (apart_any HT11.out HU11.out).mono ?_
                  rintro e w20 ⟨v20, rfl, ho20, hb20⟩
                  refine hK _ _ ?_
                  clear hK K
                  refine wpAny_ready (rs := [13]) (by kernel_rfl) (by simp) ?_
                  refine AllReady.cons rfl (fun K hK => ?_) ?_
                  · refine step_load_on (by rfl) (.tmp 8) rfl (w6.heap.size + 1) (by simp [Act.eval]) y (Y11.out.below hb20) ?_
                    go_simp
                    refine hK _ _ ?_
                    clear hK K
                    refine wpAny_ready (rs := [14]) (by kernel_rfl) (by simp) ?_
                    refine AllReady.cons rfl (fun K hK => ?_) ?_
                    · go_simp
                      refine (apart17_any x y w20).mono ?_
                      rintro e w21 ⟨v21, rfl, ho21, hb21⟩
                      refine hK _ _ ?_
                      clear hK K
                      refine wpAny_ready (rs := [15]) (by kernel_rfl) (by simp) ?_
                      refine AllReady.cons rfl (fun K hK => ?_) ?_
                      · go_simp
                        refine (same15_any (irow_of_own (own_below ho20 hb21)) (irow_of_own ho21) (Nat.le_trans (apartOf_len x y 64) (by decide))).mono ?_
                        rintro e w22 ⟨rfl, n22, rfl⟩
                        rw [decide_eq_true (Eq.refl (apartOf x y 64))]
                        have BE := Lib.hid (below_drewN (B11.out.trans ((hb20.trans (hb21.mono hb20.size)).mono B11.out.size)) n22)
                        clear ho20 hb20 ho21 hb21
                        refine hK _ _ ?_
                        clear hK K
                        refine wpAny_ready (rs := [16]) (by kernel_rfl) (by simp) ?_
                        refine AllReady.cons rfl (fun K hK => ?_) ?_
                        · go_simp
                          refine hK _ _ ?_
                          clear hK K
                          refine wpAny_ready (rs := [17]) (by kernel_rfl) (by simp) ?_
                          refine AllReady.cons rfl (fun K hK => ?_) ?_
                          · go_simp
                            refine hK _ _ ?_
                            clear hK K
                            refine wpAny_done (by kernel_rfl) ?_ _
                            go_wp2
                            go_meet
                            exact ⟨rfl, BE.out⟩
                          exact AllReady.nil
                        exact AllReady.nil
                      exact AllReady.nil
                    exact AllReady.nil
                  exact AllReady.nil
                refine AllReady.cons rfl (fun K hK => ?_) ?_
                · refine step_load_on (by rfl) (.tmp 8) rfl (w6.heap.size + 1) (by simp [Act.eval]) y Y11.out ?_
                  go_simp
                  refine hK _ _ ?_
                  clear hK K
                  refine wpAny_ready (rs := [11]) (by kernel_rfl) (by simp) ?_
                  refine AllReady.cons rfl (fun K hK => ?_) ?_
                  · go_simp
                    refine (apart_any HT11.out HU11.out).mono ?_
                    rintro e w20 ⟨v20, rfl, ho20, hb20⟩
                    refine hK _ _ ?_
                    clear hK K
                    refine wpAny_ready (rs := [14]) (by kernel_rfl) (by simp) ?_
                    refine AllReady.cons rfl (fun K hK => ?_) ?_
                    · go_simp
                      refine (apart17_any x y w20).mono ?_
                      rintro e w21 ⟨v21, rfl, ho21, hb21⟩
                      refine hK _ _ ?_
                      clear hK K
                      refine wpAny_ready (rs := [15]) (by kernel_rfl) (by simp) ?_
                      refine AllReady.cons rfl (fun K hK => ?_) ?_
                      · go_simp
                        refine (same15_any (irow_of_own (own_below ho20 hb21)) (irow_of_own ho21) (Nat.le_trans (apartOf_len x y 64) (by decide))).mono ?_
                        rintro e w22 ⟨rfl, n22, rfl⟩
                        rw [decide_eq_true (Eq.refl (apartOf x y 64))]
                        have BE := Lib.hid (below_drewN (B11.out.trans ((hb20.trans (hb21.mono hb20.size)).mono B11.out.size)) n22)
                        clear ho20 hb20 ho21 hb21
                        refine hK _ _ ?_
                        clear hK K
                        refine wpAny_ready (rs := [16]) (by kernel_rfl) (by simp) ?_
                        refine AllReady.cons rfl (fun K hK => ?_) ?_
                        · go_simp
                          refine hK _ _ ?_
                          clear hK K
                          refine wpAny_ready (rs := [17]) (by kernel_rfl) (by simp) ?_
                          refine AllReady.cons rfl (fun K hK => ?_) ?_
                          · go_simp
                            refine hK _ _ ?_
                            clear hK K
                            refine wpAny_done (by kernel_rfl) ?_ _
                            go_wp2
                            go_meet
                            exact ⟨rfl, BE.out⟩
                          exact AllReady.nil
                        exact AllReady.nil
                      exact AllReady.nil
                    exact AllReady.nil
                  exact AllReady.nil
                exact AllReady.nil
              refine AllReady.cons rfl (fun K hK => ?_) ?_
              · refine step_load_on (by rfl) (.tmp 8) rfl (w6.heap.size + 1) (by simp [Act.eval, Act.put]) y Y11.out ?_
                go_simp
                refine hK _ _ ?_
                clear hK K
                refine wpAny_ready (rs := [11, 12]) (by kernel_rfl) (by simp) ?_
                refine AllReady.cons rfl (fun K hK => ?_) ?_
                · go_simp
                  refine (apart_any HT11.out HU11.out).mono ?_
                  rintro e w20 ⟨v20, rfl, ho20, hb20⟩
                  refine hK _ _ ?_
                  clear hK K
                  refine wpAny_ready (rs := [12]) (by kernel_rfl) (by simp) ?_
                  refine AllReady.cons rfl (fun K hK => ?_) ?_
                  · refine step_load_on (by rfl) (.tmp 7) rfl (w6.heap.size) (by simp [Act.eval]) x (X11.out.below hb20) ?_
                    go_simp
                    refine hK _ _ ?_
                    clear hK K
                    refine wpAny_ready (rs := [14]) (by kernel_rfl) (by simp) ?_
                    refine AllReady.cons rfl (fun K hK => ?_) ?_
                    · go_simp
                      refine (apart17_any x y w20).mono ?_
                      rintro e w21 ⟨v21, rfl, ho21, hb21⟩
                      refine hK _ _ ?_
                      clear hK K
                      refine wpAny_ready (rs := [15]) (by kernel_rfl) (by simp) ?_
                      refine AllReady.cons rfl (fun K hK => ?_) ?_
                      · go_simp
                        refine (same15_any (irow_of_own (own_below ho20 hb21)) (irow_of_own ho21) (Nat.le_trans (apartOf_len x y 64) (by decide))).mono ?_
                        rintro e w22 ⟨rfl, n22, rfl⟩
                        rw [decide_eq_true (Eq.refl (apartOf x y 64))]
                        have BE := Lib.hid (below_drewN (B11.out.trans ((hb20.trans (hb21.mono hb20.size)).mono B11.out.size)) n22)
                        clear ho20 hb20 ho21 hb21
                        refine hK _ _ ?_
                        clear hK K
                        refine wpAny_ready (rs := [16]) (by kernel_rfl) (by simp) ?_
                        refine AllReady.cons rfl (fun K hK => ?_) ?_
                        · go_simp
                          refine hK _ _ ?_
                          clear hK K
                          refine wpAny_ready (rs := [17]) (by kernel_rfl) (by simp) ?_
                          refine AllReady.cons rfl (fun K hK => ?_) ?_
                          · go_simp
                            refine hK _ _ ?_
                            clear hK K
                            refine wpAny_done (by kernel_rfl) ?_ _
                            go_wp2
                            go_meet
                            exact ⟨rfl, BE.out⟩
                          exact AllReady.nil
                        exact AllReady.nil
                      exact AllReady.nil
                    exact AllReady.nil
                  exact AllReady.nil
                refine AllReady.cons rfl (fun K hK => ?_) ?_
                · refine step_load_on (by rfl) (.tmp 7) rfl (w6.heap.size) (by simp [Act.eval]) x X11.out ?_
                  go_simp
                  refine hK _ _ ?_
                  clear hK K
                  refine wpAny_ready (rs := [11]) (by kernel_rfl) (by simp) ?_
                  refine AllReady.cons rfl (fun K hK => ?_) ?_
                  · go_simp
                    refine (apart_any HT11.out HU11.out).mono ?_
                    rintro e w20 ⟨v20, rfl, ho20, hb20⟩
                    refine hK _ _ ?_
                    clear hK K
                    refine wpAny_ready (rs := [14]) (by kernel_rfl) (by simp) ?_
                    refine AllReady.cons rfl (fun K hK => ?_) ?_
                    · go_simp
                      refine (apart17_any x y w20).mono ?_
                      rintro e w21 ⟨v21, rfl, ho21, hb21⟩
                      refine hK _ _ ?_
                      clear hK K
                      refine wpAny_ready (rs := [15]) (by kernel_rfl) (by simp) ?_
                      refine AllReady.cons rfl (fun K hK => ?_) ?_
                      · go_simp
                        refine (same15_any (irow_of_own (own_below ho20 hb21)) (irow_of_own ho21) (Nat.le_trans (apartOf_len x y 64) (by decide))).mono ?_
                        rintro e w22 ⟨rfl, n22, rfl⟩
                        rw [decide_eq_true (Eq.refl (apartOf x y 64))]
                        have BE := Lib.hid (below_drewN (B11.out.trans ((hb20.trans (hb21.mono hb20.size)).mono B11.out.size)) n22)
                        clear ho20 hb20 ho21 hb21
                        refine hK _ _ ?_
                        clear hK K
                        refine wpAny_ready (rs := [16]) (by kernel_rfl) (by simp) ?_
                        refine AllReady.cons rfl (fun K hK => ?_) ?_
                        · go_simp
                          refine hK _ _ ?_
                          clear hK K
                          refine wpAny_ready (rs := [17]) (by kernel_rfl) (by simp) ?_
                          refine AllReady.cons rfl (fun K hK => ?_) ?_
                          · go_simp
                            refine hK _ _ ?_
                            clear hK K
                            refine wpAny_done (by kernel_rfl) ?_ _
                            go_wp2
                            go_meet
                            exact ⟨rfl, BE.out⟩
                          exact AllReady.nil
                        exact AllReady.nil
                      exact AllReady.nil
                    exact AllReady.nil
                  exact AllReady.nil
                exact AllReady.nil
              exact AllReady.nil
            exact AllReady.nil
          exact AllReady.nil
        exact AllReady.nil
      exact AllReady.nil
    exact AllReady.nil
  case rest =>
    obtain ⟨rfl, hb⟩ := hcut
    have BE := Lib.hid hb
    clear hb
    go_wp2_with fail
    go_ret
    exact ⟨rfl, BE.out⟩
end Go.Proofs.Ytibgfmkgojeefaa
