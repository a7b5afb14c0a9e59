/- The walk of TreeTwo. Conditions: the rows lie as Go's slices do. -/
import Derived.Test.YtibgfmkgojeefaaQ
import Derived.BigRegion
import Derived.Deep.DeepCutAuto
import Derived.Deep.RegionWith
namespace Go.Proofs.Ytibgfmkgojeefaa
open Go.RowKit Go.Maps Go.WideMaps Go.ChangeShapes Go.WideShapes Go.Deep

theorem IRow.below {w w' : World} {k : IntKind} {v : Value} {xs : List Nat} (h : IRow w k v xs) (hb : Below w.heap.size w w') : IRow w' k v xs := by
  obtain ⟨p, c, rfl, h⟩ := h
  refine ⟨p, c, rfl, fun hne => ?_⟩
  obtain ⟨g, o, rfl, hc⟩ := h hne
  exact ⟨g, o, rfl, fun j x hj => (hb.cell (World.block_lt_of_cell? w _ (hc j x hj))).trans (hc j x hj)⟩
theorem IRow.drewN {w : World} {k : IntKind} {v : Value} {xs : List Nat} (h : IRow w k v xs) (n : Nat) : IRow (w.drewN n) k v xs := h.below (below_drewN (Below.refl _ _) n)
theorem turn_comm (lv : Nat → Nat) (i x j y : Nat) : turn (turn lv i x) j y = turn (turn lv j y) i x := by
  funext k
  unfold turn
  split <;> split <;> try rfl
  rw [Nat.xor_assoc, Nat.xor_assoc, Nat.xor_comm x y]
theorem step_comm (lv : Nat → Nat) (f g : FlipV) : flipStep (flipStep lv f) g = flipStep (flipStep lv g) f := by
  by_cases h : 0 ≤ f.i ∧ f.i < 64 <;> by_cases k : 0 ≤ g.i ∧ g.i < 64
  · rw [flipStep_in h, flipStep_in k, flipStep_in k, flipStep_in h, turn_comm]
  · rw [flipStep_out k, flipStep_out k]
  · rw [flipStep_out h, flipStep_out h]
  · rw [flipStep_out h, flipStep_out k]; exact (flipStep_out h).symm
theorem flips_reverse (lv : Nat → Nat) (L : List FlipV) : flips lv L.reverse = flips lv L := by
  unfold flips
  exact (List.reverse_perm L).foldl_eq' (fun x _ y _ z => step_comm z x y) lv
theorem drop_more {α : Type} (L : List α) (k : Nat) (f : α) (h : L[k]? = some f) : (L.drop k).reverse = (L.drop (k + 1)).reverse ++ [f] := by
  have hlt := (List.getElem?_eq_some_iff.1 h).1
  rw [List.drop_eq_getElem_cons hlt, List.reverse_cons, (List.getElem?_eq_some_iff.1 h).2]

set_option maxRecDepth 100000 in
set_option maxHeartbeats 2000000 in
theorem treeTwo_long (a : Option Addr) (len cap : Nat) (a2 : Option Addr) (len2 cap2 : Nat) (w : World) (hl : 100 < len) :
    Calls Try.prog 6 #[.slice a len cap, .slice a2 len2 cap2] w fun e w' => TruePost w e w' := by
  go_enter Try.func6, Try.ntmps6
  go_wp2_with fail
  refine (new_any _).mono ?_
  rintro e w1 ⟨t, rfl, ht, htn, hb1⟩
  have HT := Lib.hid ht
  have TN := Lib.hid htn
  have B1 := Lib.hid hb1
  clear ht htn hb1
  go_wp2_with fail
  refine (new_any w1).mono ?_
  rintro e w2 ⟨u, rfl, hu, hun, hb2⟩
  have HTU : Hid (t ≠ u) := Lib.hid (by have := HT.out.lt; omega)
  have UN : Hid (w.heap.size ≤ u) := Lib.hid (Nat.le_trans B1.out.size hun)
  have HT2 := Lib.hid (HT.out.below hb2)
  have HU := Lib.hid hu
  have B2 := Lib.hid (B1.out.trans (hb2.mono B1.out.size))
  clear hu hun hb2 HT B1
  go_wp2_with fail
  refine (new_any w2).mono ?_
  rintro e w3 ⟨v, rfl, hv, hvn, hb3⟩
  have HTV : Hid (t ≠ v) := Lib.hid (by have := HT2.out.lt; omega)
  have HUV : Hid (u ≠ v) := Lib.hid (by have := HU.out.lt; omega)
  have VN : Hid (w.heap.size ≤ v) := Lib.hid (Nat.le_trans B2.out.size hvn)
  have HT3 := Lib.hid (HT2.out.below hb3)
  have HU3 := Lib.hid (HU.out.below hb3)
  have HV := Lib.hid hv
  have B3 := Lib.hid (B2.out.trans (hb3.mono B2.out.size))
  clear hv hvn hb3 HT2 HU B2
  go_wp2_with fail
  refine (fixed_any w3).mono ?_
  rintro e w4 ⟨rfl, hb4⟩
  have HT4 := Lib.hid (HT3.out.below hb4)
  have HU4 := Lib.hid (HU3.out.below hb4)
  have HV4 := Lib.hid (HV.out.below hb4)
  have B4 := Lib.hid (B3.out.trans (hb4.mono B3.out.size))
  clear hb4 HT3 HU3 HV B3
  clear HT4 HU4 HV4
  go_wp2_with fail
  refine (fixed_any w4).mono ?_
  rintro e w5 ⟨rfl, hb5⟩
  have B5 := Lib.hid (B4.out.trans (hb5.mono B4.out.size))
  clear hb5
  go_wp2_with fail
  go_ret
  exact ⟨rfl, B5.out⟩

set_option maxRecDepth 100000 in
set_option maxHeartbeats 2000000 in
theorem treeTwo_short (a : Option Addr) (len cap : Nat) (L : List FlipV) (a2 : Option Addr) (len2 cap2 : Nat) (L2 : List FlipV) (w : World) (hrow : RowOf cells39 2 ok39 w a len cap L) (hr : len * 16 ≤ 140737488351232) (hrow2 : RowOf cells39 2 ok39 w a2 len2 cap2 L2) (hr2 : len2 * 16 ≤ 140737488351232) (hl : len ≤ 100) :
    Calls Try.prog 6 #[.slice a len cap, .slice a2 len2 cap2] w fun e w' => TruePost w e w' := by
  have HR := Lib.hid hrow
  have HR2 := Lib.hid hrow2
  clear hrow hrow2
  go_enter Try.func6, Try.ntmps6
  go_wp2_with fail
  refine (new_any _).mono ?_
  rintro e w1 ⟨t, rfl, ht, htn, hb1⟩
  have HT := Lib.hid ht
  have TN := Lib.hid htn
  have B1 := Lib.hid hb1
  clear ht htn hb1
  go_wp2_with fail
  refine (new_any w1).mono ?_
  rintro e w2 ⟨u, rfl, hu, hun, hb2⟩
  have HTU : Hid (t ≠ u) := Lib.hid (by have := HT.out.lt; omega)
  have UN : Hid (w.heap.size ≤ u) := Lib.hid (Nat.le_trans B1.out.size hun)
  have HT2 := Lib.hid (HT.out.below hb2)
  have HU := Lib.hid hu
  have B2 := Lib.hid (B1.out.trans (hb2.mono B1.out.size))
  clear hu hun hb2 HT B1
  go_wp2_with fail
  refine (new_any w2).mono ?_
  rintro e w3 ⟨v, rfl, hv, hvn, hb3⟩
  have HTV : Hid (t ≠ v) := Lib.hid (by have := HT2.out.lt; omega)
  have HUV : Hid (u ≠ v) := Lib.hid (by have := HU.out.lt; omega)
  have VN : Hid (w.heap.size ≤ v) := Lib.hid (Nat.le_trans B2.out.size hvn)
  have HT3 := Lib.hid (HT2.out.below hb3)
  have HU3 := Lib.hid (HU.out.below hb3)
  have HV := Lib.hid hv
  have B3 := Lib.hid (B2.out.trans (hb3.mono B2.out.size))
  clear hv hvn hb3 HT2 HU B2
  go_wp2_with fail
  refine (fixed_any w3).mono ?_
  rintro e w4 ⟨rfl, hb4⟩
  have HT4 := Lib.hid (HT3.out.below hb4)
  have HU4 := Lib.hid (HU3.out.below hb4)
  have HV4 := Lib.hid (HV.out.below hb4)
  have B4 := Lib.hid (B3.out.trans (hb4.mono B3.out.size))
  clear hb4 HT3 HU3 HV B3
  have hfl := flips_any HT4.out a len cap L (HR.out.below B4.out) hr (row_away HR.out TN.out)
  rw [List.take_of_length_le (by rw [HR.out.size]; omega)] at hfl
  have HFL := Lib.hid hfl
  clear hfl
  go_wp2_with fail
  refine (HFL.out).mono ?_
  rintro e w5 ⟨rfl, ht5, hg5⟩
  have HT5 := Lib.hid ht5
  have HU5 := Lib.hid (HU4.out.other hg5 (fun e => HTU.out e.symm))
  have HV5 := Lib.hid (HV4.out.other hg5 (fun e => HTV.out e.symm))
  have B5 := Lib.hid (below_grown B4.out hg5 B4.out.size TN.out)
  clear ht5 hg5 HT4 HU4 HV4 B4 HFL
  have hfl := flips_any HU5.out a2 len2 cap2 L2 (HR2.out.below B5.out) hr2 (row_away HR2.out UN.out)
  have HFL := Lib.hid hfl
  clear hfl
  go_wp2_with fail
  refine (HFL.out).mono ?_
  rintro e w6 ⟨rfl, hu6, hg6⟩
  have HU6 := Lib.hid hu6
  have HT6 := Lib.hid (HT5.out.other hg6 HTU.out)
  have HV6 := Lib.hid (HV5.out.other hg6 (fun e => HUV.out e.symm))
  have B6 := Lib.hid (below_grown B5.out hg6 B5.out.size UN.out)
  clear hu6 hg6 HT5 HU5 HV5 B5 HFL
  go_wp2_with fail
  go_loopw [8] (fun i wr => ∃ k : Nat, k ≤ len ∧ i = .int .i64 ((k : Int) - 1) ∧ Tr wr v (flips (fun _ => 0) (L.drop k).reverse) ∧ w6.grownBy wr (some v)) (fun i _ => (intOf i + 1).toNat)
  case atStart =>
    refine ⟨len, Nat.le_refl _, by go_num, ?_, ⟨rfl, rfl, rfl, Nat.le_refl _, fun _ _ _ => rfl⟩⟩
    rw [List.drop_of_length_le (by rw [HR.out.size]; exact Nat.le_refl _)]
    exact HV6.out
  case round =>
    obtain ⟨k, hk, rfl, hT, hg⟩ := hrel
    rcases Nat.eq_zero_or_pos k with rfl | hk0
    · rw [List.drop_zero, flips_reverse] at hT
      have hTE : L = L.take 101 := (List.take_of_length_le (by rw [HR.out.size]; omega)).symm
      obtain ⟨x, hx⟩ : ∃ x, x = flips (fun _ => 0) L := ⟨_, rfl⟩
      obtain ⟨y, hy⟩ : ∃ y, y = flips (fun _ => 0) (L2.take 101) := ⟨_, rfl⟩
      rw [← hx] at hT HT6
      rw [← hy] at HU6
      have HT7 := Lib.hid (HT6.out.other hg HTV.out)
      have HU7 := Lib.hid (HU6.out.other hg HUV.out)
      have HV7 := Lib.hid hT
      have B7 := Lib.hid (below_grown B6.out hg B6.out.size VN.out)
      clear hT hg HT6 HU6 HV6 B6 hx hy hTE HR HR2
      have hw := walk_any HT7.out HU7.out
      have HW := Lib.hid hw
      clear hw
      rw [show ((0 : Nat) : Int) - 1 = -1 from rfl]
      go_wp2_with fail
      refine (HW.out).mono ?_
      rintro e w9 ⟨r, rfl, hown, hb9⟩
      have HT9 := Lib.hid (HT7.out.below hb9)
      have HU9 := Lib.hid (HU7.out.below hb9)
      have HV9 := Lib.hid (HV7.out.below hb9)
      have B9 := Lib.hid (B7.out.trans (hb9.mono B7.out.size))
      have IR := Lib.hid (irow_of_own hown)
      clear hown hb9 HW HT7 HU7 HV7 B7
      have hw := walk_any HU9.out HT9.out
      rw [found_comm y x, looked_comm y x] at hw
      have HW := Lib.hid hw
      clear hw
      go_wp2_with fail
      refine (HW.out).mono ?_
      rintro e w10 ⟨r2, rfl, hown, hb10⟩
      have HT10 := Lib.hid (HT9.out.below hb10)
      have HV10 := Lib.hid (HV9.out.below hb10)
      have B10 := Lib.hid (B9.out.trans (hb10.mono B9.out.size))
      have hsame := same15_any (IR.out.below hb10) (irow_of_own hown) (Nat.le_trans (found_len x y) (by decide))
      rw [decide_eq_true (Eq.refl (found x y))] at hsame
      have HS := Lib.hid hsame
      clear hown hb10 HW HT9 HU9 HV9 B9 IR hsame
      go_wp2_with fail
      refine (HS.out).mono ?_
      rintro e w11 ⟨rfl, n11, rfl⟩
      go_wp2_with fail
      refine (root_any (HT10.out.drewN n11)).mono ?_
      rintro e w12 ⟨rfl, n12, rfl⟩
      go_wp2_with fail
      refine (root_any (HV10.out.drewN (n11 + n12))).mono ?_
      rintro e w13 ⟨rfl, n13, rfl⟩
      go_wp2_with fail
      refine (leaves_any (HT10.out.drewN (n11 + n12 + n13))).mono ?_
      rintro e w14 ⟨l1, rfl, hi1, hb14⟩
      have HV14 := Lib.hid ((HV10.out.drewN (n11 + n12 + n13)).below hb14)
      have HI1 := Lib.hid hi1
      have B14 := Lib.hid ((below_drewN B10.out (n11 + n12 + n13)).trans (hb14.mono B10.out.size))
      clear hi1 hb14 HT10 HV10 B10
      go_wp2_with fail
      refine (leaves_any HV14.out).mono ?_
      rintro e w15 ⟨l2, rfl, hi2, hb15⟩
      have hsame := same21_any (HI1.out.below hb15) hi2 (by rw [leavesOf_len]; decide)
      rw [decide_eq_true (Eq.refl (leavesOf x))] at hsame
      have HS2 := Lib.hid hsame
      have B15 := Lib.hid (B14.out.trans (hb15.mono B14.out.size))
      clear hi2 hb15 HI1 HV14 B14 hsame HS
      go_wp2_with fail
      refine (HS2.out).mono ?_
      rintro e w16 ⟨rfl, n16, rfl⟩
      have BE := Lib.hid (below_drewN B15.out n16)
      go_wp2_with fail
      go_ret
      exact ⟨rfl, BE.out⟩
    · obtain ⟨k, rfl⟩ : ∃ j, k = j + 1 := ⟨k - 1, by omega⟩
      obtain ⟨f, hf⟩ : ∃ f, L[k]? = some f := ⟨_, List.getElem?_eq_getElem (by rw [HR.out.size]; omega)⟩
      obtain ⟨bo, oo, rfl, hcell⟩ := HR.out.cell k f hf
      obtain ⟨fi, fx⟩ := f
      have c0 : w.cell? ⟨bo, oo + k * 2, none⟩ = some (.int .i64 fi) := hcell 0 _ rfl
      have c1 : w.cell? ⟨bo, oo + k * 2 + 1, none⟩ = some (.int .u64 fx) := hcell 1 _ rfl
      have hlt0 := World.block_lt_of_cell? w _ c0
      have hlt1 := World.block_lt_of_cell? w _ c1
      have e0 := (B6.out.cell hlt0).trans c0
      have e1 := (B6.out.cell hlt1).trans c1
      have hbv : bo ≠ v := by have := VN.out; have : bo < w.heap.size := hlt0; omega
      have d0 := hg.cell e0 (fun e => hbv (Option.some.inj e))
      have d1 := hg.cell e1 (fun e => hbv (Option.some.inj e))
      have hok := HR.out.good _ (List.mem_of_getElem? hf)
      have hstep : flips (fun _ => 0) (L.drop k).reverse = flipStep (flips (fun _ => 0) (L.drop (k + 1)).reverse) ⟨fi, fx⟩ := by
        rw [drop_more L k _ hf]; exact List.foldl_append
      have HG := Lib.hid hg
      have HST := Lib.hid hstep
      have hTd : Tr wr.drew v (flips (fun _ => 0) (L.drop (k + 1)).reverse) := hT.heap rfl
      have hfl := flip_all hTd ⟨fi, fx⟩ hok.2.2
      have HFL := Lib.hid hfl
      have hk1 : (k : Int) + 1 - 1 = k := by omega
      rw [show ((k + 1 : Nat) : Int) - 1 = (k : Int) by omega]
      have hkz : (0 : Int) ≤ (k : Int) := by omega
      have hkn : (k : Int) < (len : Int) := by omega
      clear hcell c0 c1 e0 e1 hlt0 hlt1 hbv hf hok hstep hT hTd hg hfl hk1
      go_wp2_with fail
      go_region_with (go_at_call 18; refine (HFL.out).mono ?_; rintro e w9 ⟨⟨c, rfl⟩, hV9, hg9⟩)
      all_goals go_wp2
      all_goals go_roundw
      case rel => exact ⟨k, by omega, rfl, HST.out ▸ hV9, grown_trans HG.out ⟨hg9.os, hg9.tape, hg9.output, hg9.size, hg9.block⟩⟩
      case measure => simp [intOf]
      case rel => exact ⟨k, by omega, rfl, HST.out ▸ hV9, grown_trans HG.out ⟨hg9.os, hg9.tape, hg9.output, hg9.size, hg9.block⟩⟩
      case measure => simp [intOf]
theorem treeTwo_walk (a : Option Addr) (len cap : Nat) (L : List FlipV) (a2 : Option Addr) (len2 cap2 : Nat) (L2 : List FlipV) (w : World) (hrow : RowOf cells39 2 ok39 w a len cap L) (hr : len * 16 ≤ 140737488351232) (hrow2 : RowOf cells39 2 ok39 w a2 len2 cap2 L2) (hr2 : len2 * 16 ≤ 140737488351232) :
    Calls Try.prog 6 #[.slice a len cap, .slice a2 len2 cap2] w fun e w' => TruePost w e w' := by
  by_cases hl : len ≤ 100
  · exact treeTwo_short a len cap L a2 len2 cap2 L2 w hrow hr hrow2 hr2 hl
  · exact treeTwo_long a len cap a2 len2 cap2 w (by omega)
end Go.Proofs.Ytibgfmkgojeefaa
