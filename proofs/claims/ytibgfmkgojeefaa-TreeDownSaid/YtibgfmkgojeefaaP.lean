/- The walk of TreeDown. Conditions: the rows lie as Go's slices do. -/
import Derived.Test.YtibgfmkgojeefaaN
namespace Go.Proofs.Ytibgfmkgojeefaa
open Go.RowKit Go.Maps Go.WideMaps Go.ChangeShapes Go.WideShapes Go.Deep

theorem below_row {B g : Nat} {w0 w : World} (hb : Below B w0 w) (hBg : B ≤ g) (cs : Array Value) : Below B w0 (w.setRow g cs) :=
  hb.trans ⟨rfl, rfl, rfl, by simp [World.setRow], fun k hk => setRow_other w g k cs (by omega)⟩
set_option maxRecDepth 100000 in
set_option maxHeartbeats 2000000 in
theorem treeDown_walk (a : Option Addr) (len cap : Nat) (L : List FlipV) (a2 : Option Addr) (len2 cap2 : Nat) (L2 : List FlipV) (w : World) (hrow : RowOf cells39 2 ok39 w a len cap L) (hr : len * 16 ≤ 140737488351232) (hrow2 : RowOf cells39 2 ok39 w a2 len2 cap2 L2) (hr2 : len2 * 16 ≤ 140737488351232) :
    Calls Try.prog 3 #[.slice a len cap, .slice a2 len2 cap2] w fun e w' => TruePost w e w' := by
  have HR := Lib.hid hrow
  have HR2 := Lib.hid hrow2
  clear hrow hrow2
  have hb27 := build27
  go_enter Try.func3, Try.ntmps3
  go_wp2_with fail
  refine (new_any _).mono ?_
  rintro e w1 ⟨t, rfl, ht, htn, hb1⟩
  have HT := Lib.hid ht
  have TN := Lib.hid htn
  have B1 := Lib.hid hb1
  clear ht htn hb1
  go_wp2_with fail
  refine (new_any w1).mono ?_
  rintro e w2 ⟨u, rfl, hu, hun, hb2⟩
  have HTU : Hid (t ≠ u) := Lib.hid (by have := HT.out.lt; omega)
  have UN : Hid (w.heap.size ≤ u) := Lib.hid (Nat.le_trans B1.out.size hun)
  have HT2 := Lib.hid (HT.out.below hb2)
  have HU := Lib.hid hu
  have B2 := Lib.hid (B1.out.trans (hb2.mono B1.out.size))
  clear hu hun hb2 HT B1
  go_wp2_with fail
  refine (new_any w2).mono ?_
  rintro e w3 ⟨v, rfl, hv, hvn, hb3⟩
  have HTV : Hid (t ≠ v) := Lib.hid (by have := HT2.out.lt; omega)
  have HUV : Hid (u ≠ v) := Lib.hid (by have := HU.out.lt; omega)
  have VN : Hid (w.heap.size ≤ v) := Lib.hid (Nat.le_trans B2.out.size hvn)
  have HT3 := Lib.hid (HT2.out.below hb3)
  have HU3 := Lib.hid (HU.out.below hb3)
  have HV := Lib.hid hv
  have B3 := Lib.hid (B2.out.trans (hb3.mono B2.out.size))
  clear hv hvn hb3 HT2 HU B2
  go_wp2_with fail
  refine (fixed_any w3).mono ?_
  rintro e w4 ⟨rfl, hb4⟩
  have HT4 := Lib.hid (HT3.out.below hb4)
  have HU4 := Lib.hid (HU3.out.below hb4)
  have HV4 := Lib.hid (HV.out.below hb4)
  have B4 := Lib.hid (B3.out.trans (hb4.mono B3.out.size))
  clear hb4 HT3 HU3 HV B3
  have hfl := flips_any HT4.out a len cap L (HR.out.below B4.out) hr (row_away HR.out TN.out)
  have HFL := Lib.hid hfl
  clear hfl
  go_wp2_with fail
  refine (HFL.out).mono ?_
  rintro e w5 ⟨rfl, ht5, hg5⟩
  have HT5 := Lib.hid ht5
  have HU5 := Lib.hid (HU4.out.other hg5 (fun e => HTU.out e.symm))
  have HV5 := Lib.hid (HV4.out.other hg5 (fun e => HTV.out e.symm))
  have B5 := Lib.hid (below_grown B4.out hg5 B4.out.size TN.out)
  clear ht5 hg5 HT4 HU4 HV4 B4 HFL
  have hfl := flips_any HU5.out a2 len2 cap2 L2 (HR2.out.below B5.out) hr2 (row_away HR2.out UN.out)
  have HFL := Lib.hid hfl
  clear hfl
  go_wp2_with fail
  refine (HFL.out).mono ?_
  rintro e w6 ⟨rfl, hu6, hg6⟩
  have HU6 := Lib.hid hu6
  have HT6 := Lib.hid (HT5.out.other hg6 HTU.out)
  have HV6 := Lib.hid (HV5.out.other hg6 (fun e => HUV.out e.symm))
  have B6 := Lib.hid (below_grown B5.out hg6 B5.out.size UN.out)
  clear hu6 hg6 HT5 HU5 HV5 B5 HFL
  have z1 : ArrAt ((w6.alloc (.cells (arr (fun _ => 0)) 27)).alloc (.cells (arr (fun _ => 0)) 27)) w6.heap.size (fun _ => 0) := ⟨by rw [Below.heap_alloc _ _ _ (by rw [st_size]; omega)]; exact heap_alloc_new _ _⟩
  have z2 : ArrAt (((w6.alloc (.cells (arr (fun _ => 0)) 27)).alloc (.cells (arr (fun _ => 0)) 27)).setRow w6.heap.size (arr (flips (fun _ => 0) (L.take 101)))) (w6.heap.size + 1) (fun _ => 0) := ⟨by
    rw [setRow_other _ _ _ _ (by omega)]
    have h := heap_alloc_new (w6.alloc (.cells (arr (fun _ => 0)) 27)) (.cells (arr (fun _ => 0)) 27)
    rw [st_size] at h
    exact h⟩
  have Z1 := Lib.hid z1
  have Z2 := Lib.hid z2
  clear z1 z2
  go_wp2_with (first
    | (refine wpList_store_row rfl 27 _ _ rfl w6.heap.size (arr (flips (fun _ => 0) (L.take 101))) rfl rfl 27 _ Z1.out.blk (info27 _) (by rw [arr_size, arr_size]) (arr_one _) ?_)
    | (refine wpList_store_row rfl 27 _ _ rfl (w6.heap.size + 1) (arr (flips (fun _ => 0) (L2.take 101))) rfl rfl 27 _ Z2.out.blk (info27 _) (by rw [arr_size, arr_size]) (arr_one _) ?_)
    | fail)
  obtain ⟨W7, hW7⟩ : ∃ W7, W7 = ((((w6.alloc (.cells (arr (fun _ => 0)) 27)).alloc (.cells (arr (fun _ => 0)) 27)).setRow w6.heap.size (arr (flips (fun _ => 0) (L.take 101)))).setRow (w6.heap.size + 1) (arr (flips (fun _ => 0) (L2.take 101)))) := ⟨_, rfl⟩
  have bz : Below w6.heap.size w6 W7 := by
    rw [hW7]
    exact below_row (below_row (((Below.refl _ _).alloc (Nat.le_refl _) _).alloc (by simp) _) (Nat.le_refl _) _) (Nat.le_succ _) _
  have X7 : Hid (ArrAt W7 w6.heap.size (flips (fun _ => 0) (L.take 101))) := Lib.hid ⟨by rw [hW7, setRow_other _ _ _ _ (by omega)]; exact (Z1.out.stored).blk⟩
  have Y7 : Hid (ArrAt W7 (w6.heap.size + 1) (flips (fun _ => 0) (L2.take 101))) := Lib.hid ⟨by rw [hW7]; exact (Z2.out.stored).blk⟩
  have HT7 := Lib.hid (HT6.out.below bz)
  have HU7 := Lib.hid (HU6.out.below bz)
  have HV7 := Lib.hid (HV6.out.below bz)
  have B7 := Lib.hid (B6.out.trans (bz.mono B6.out.size))
  have hfl := flips_any HV7.out a len cap L (HR.out.below B7.out) hr (row_away HR.out VN.out)
  have HFL := Lib.hid hfl
  have NX : Hid (w6.heap.size ≠ v ∧ w6.heap.size + 1 ≠ v ∧ w.heap.size ≤ w6.heap.size) := Lib.hid ⟨by have := HV6.out.lt; omega, by have := HV6.out.lt; omega, B6.out.size⟩
  clear hfl bz hb27 HT6 HU6 HV6 B6 Z1 Z2
  rw [hW7] at HFL
  refine (HFL.out).mono ?_
  rintro e w8 ⟨rfl, hv8, hg8⟩
  rw [← hW7] at hg8
  have X8 := Lib.hid (X7.out.other hg8 NX.out.1)
  have Y8 := Lib.hid (Y7.out.other hg8 NX.out.2.1)
  have HV8 := Lib.hid hv8
  have HT8 := Lib.hid (HT7.out.other hg8 HTV.out)
  have HU8 := Lib.hid (HU7.out.other hg8 HUV.out)
  have B8 := Lib.hid (below_grown B7.out hg8 B7.out.size VN.out)
  clear hv8 hg8 HT7 HU7 HV7 B7 HFL X7 Y7 hW7
  have hlaw := found_law (flips (fun _ => 0) (L.take 101)) (flips (fun _ => 0) (L2.take 101))
  obtain ⟨xs, hxs⟩ : ∃ xs, xs = found (flips (fun _ => 0) (L.take 101)) (flips (fun _ => 0) (L2.take 101)) := ⟨_, rfl⟩
  rw [← hxs] at hlaw
  have HL := Lib.hid hlaw
  have hxl : xs.length ≤ 64 := by rw [hxs]; exact found_len _ _
  obtain ⟨N, hN⟩ : ∃ N, N = looked (flips (fun _ => 0) (L.take 101)) (flips (fun _ => 0) (L2.take 101)) := ⟨_, rfl⟩
  have hnb := looked_bound (flips (fun _ => 0) (L.take 101)) (flips (fun _ => 0) (L2.take 101))
  have hw := walk_any HT8.out HU8.out
  rw [← hxs, ← hN] at hw
  rw [← hN] at hnb
  have HXS := Lib.hid hxs
  have HXL := Lib.hid hxl
  have HNB := Lib.hid hnb
  clear hlaw hxs hxl hN hnb
  have HW := Lib.hid hw
  clear hw
  go_wp2_with fail
  refine (HW.out).mono ?_
  rintro e w9 ⟨r, rfl, hown, hb9⟩
  have hir := irow_of_own hown
  have X9 := Lib.hid (X8.out.below hb9)
  have Y9 := Lib.hid (Y8.out.below hb9)
  have HT9 := Lib.hid (HT8.out.below hb9)
  have HU9 := Lib.hid (HU8.out.below hb9)
  have HV9 := Lib.hid (HV8.out.below hb9)
  have B9 := Lib.hid (B8.out.trans (hb9.mono B8.out.size))
  obtain ⟨p9, c9, rfl, hir⟩ := hir
  have IR := Lib.hid hir
  clear hir hown hb9 HW X8 Y8 HT8 HU8 HV8 B8
  go_wp2_with fail
  go_loopw [12, 51] (fun v i wr => ∃ (k m : Nat) (q : Int), k ≤ xs.length ∧ i = .int .i64 k ∧ v = .int .i64 q ∧ (∀ (j x : Nat), k ≤ j → xs[j]? = some x → q < (x : Int)) ∧ wr = w9.drewN m) (fun _ i _ => xs.length - (intOf i).toNat)
  case atStart => exact ⟨0, 0, -1, Nat.zero_le _, rfl, rfl, fun j x _ _ => by omega, rfl⟩
  case round =>
    obtain ⟨k, m, q, hk, rfl, rfl, hq, rfl⟩ := hrel
    by_cases hlt : k < xs.length
    · obtain ⟨x, hx⟩ : ∃ x, xs[k]? = some x := ⟨_, List.getElem?_eq_getElem hlt⟩
      obtain ⟨g, o, rfl, hc⟩ := IR.out (fun e => by rw [e] at hlt; exact absurd hlt (Nat.not_lt_zero _))
      have hcx := hc k x hx
      obtain ⟨hx64, hxne⟩ := HL.out.1 x (List.mem_of_getElem? hx)
      have ca := X9.out.cell hx64
      have cb := Y9.out.cell hx64
      have hqx := hq k x (Nat.le_refl _) hx
      have hnext : ∀ (j y : Nat), k + 1 ≤ j → xs[j]? = some y → (x : Int) < (y : Int) := fun j y hj hy => by
        have hjl := (List.getElem?_eq_some_iff.1 hy).1
        have := (List.pairwise_iff_getElem.1 HL.out.2.1) k j hlt hjl (by omega)
        rw [(List.getElem?_eq_some_iff.1 hx).2, (List.getElem?_eq_some_iff.1 hy).2] at this
        omega
      have HNX := Lib.hid hnext
      have hxi0 : (0 : Int) ≤ (x : Int) := by omega
      have hxi1 : (x : Int) < 64 := by omega
      have hxi2 : (x : Int) ≤ 63 := by omega
      have hee : (((flips (fun _ => 0) (L.take 101) x : Nat) : Int) == ((flips (fun _ => 0) (L2.take 101) x : Nat) : Int)) = false := beq_eq_false_iff_ne.2 (by omega)
      have hk0 : (0 : Int) ≤ (k : Int) := by omega
      have hk64 : k < 64 := by have := HXL.out; omega
      have hkn : (k : Int) < (xs.length : Int) := by omega
      clear hc hx hxne hq hnext
      go_wp2_with fail
      go_quiet (fail)
      clear ca cb hcx
      go_wp2
      go_roundw
      case rel => exact ⟨k + 1, _, x, hlt, by go_num, rfl, HNX.out, rfl⟩
      case measure => simp [intOf]; omega
    · have hw := walk_any (HT9.out.drewN m) (HV9.out.drewN m)
      rw [(found_same rfl).1, (found_same rfl).2] at hw
      have HW := Lib.hid hw
      clear hw hq
      go_wp2_with fail
      refine (HW.out).mono ?_
      rintro e w10 ⟨v10, rfl, hown, hb10⟩
      obtain ⟨p10, c10, rfl, -⟩ := irow_of_own hown
      have HT10 := Lib.hid ((HT9.out.drewN m).below hb10)
      have HU10 := Lib.hid ((HU9.out.drewN m).below hb10)
      have B10 := Lib.hid ((below_drewN B9.out m).trans (hb10.mono B9.out.size))
      clear hown hb10 HW
      have n1 := HNB.out.1
      have n2 := HNB.out.2
      have hlen : (0 < xs.length) ↔ ¬ nd (flips (fun _ => 0) (L.take 101)) 1 = nd (flips (fun _ => 0) (L2.take 101)) 1 := by
        constructor
        · intro h he
          rw [HXS.out, (found_same he).1] at h
          exact absurd h (Nat.lt_irrefl _)
        · intro h
          exact List.length_pos_iff.2 (HL.out.2.2 h)
      have HLEN := Lib.hid hlen
      clear hlen
      go_wp2_with fail
      refine (root_any HT10.out).mono ?_
      rintro e w11 ⟨rfl, n11, rfl⟩
      go_wp2_with fail
      refine (root_any (HU10.out.drewN n11)).mono ?_
      rintro e w12 ⟨rfl, n12, rfl⟩
      have BE := Lib.hid (below_drewN B10.out (n11 + n12))
      by_cases he : nd (flips (fun _ => 0) (L.take 101)) 1 = nd (flips (fun _ => 0) (L2.take 101)) 1
      · have h0 : xs.length = 0 := by
          rcases Nat.eq_zero_or_pos xs.length with h | h
          · exact h
          · exact absurd he (HLEN.out.1 h)
        rw [he, h0]
        clear he h0 hlt
        go_wp2_with fail
        go_ret
        exact ⟨rfl, BE.out⟩
      · have h0 : 0 < xs.length := HLEN.out.2 he
        have h00 : (0 : Int) < (xs.length : Int) := by omega
        have hd : decide ((0 : Int) < (xs.length : Int)) = true := decide_eq_true h00
        have hee : (((nd (flips (fun _ => 0) (L.take 101)) 1 : Nat) : Int) == ((nd (flips (fun _ => 0) (L2.take 101)) 1 : Nat) : Int)) = false := beq_eq_false_iff_ne.2 (by omega)
        have hbn : (((nd (flips (fun _ => 0) (L.take 101)) 1 : Nat) : Int) != ((nd (flips (fun _ => 0) (L2.take 101)) 1 : Nat) : Int)) = true := by rw [bne, hee]; rfl
        clear he hlt
        go_wp2_with fail
        go_ret
        exact ⟨rfl, BE.out⟩
end Go.Proofs.Ytibgfmkgojeefaa
