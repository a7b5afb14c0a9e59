/- The walk of TreeOf. Conditions: the row of leaves lies as Go's slices do. -/
import Derived.Test.YtibgfmkgojeefaaS
import Derived.BigRegion
import Derived.Deep.DeepCutAuto
import Derived.Deep.RegionWith
namespace Go.Proofs.Ytibgfmkgojeefaa
open Go.RowKit Go.Maps Go.WideMaps Go.ChangeShapes Go.WideShapes Go.Deep

set_option maxRecDepth 100000 in
set_option maxHeartbeats 1000000 in
theorem treeOf_long (a : Option Addr) (len cap : Nat) (w : World) (hl : 1000 < len) :
    Calls Try.prog 7 #[.slice a len cap] w fun e w' => TruePost w e w' := by
  go_enter Try.func7, Try.ntmps7
  go_wp2_with fail
  refine (fixed_any w).mono ?_
  rintro e w4 ⟨rfl, hb4⟩
  have B4 := Lib.hid hb4
  clear hb4
  go_wp2_with fail
  go_ret
  exact ⟨rfl, B4.out⟩
set_option maxRecDepth 100000 in
set_option maxHeartbeats 1000000 in
theorem treeOf_other (a : Option Addr) (len cap : Nat) (w : World) (hl : len ≤ 1000) (hl2 : len ≠ 64) :
    Calls Try.prog 7 #[.slice a len cap] w fun e w' => TruePost w e w' := by
  have h0 : ((len : Int) == 64) = false := beq_eq_false_iff_ne.2 (by omega)
  have h1 : ((len : Int) != 64) = true := by rw [bne, h0]; rfl
  have hof := Lib.hid (of_bad a len cap hl2 w)
  clear hl2
  go_enter Try.func7, Try.ntmps7
  go_wp2_with fail
  refine (hof.out).mono ?_
  rintro e w1 ⟨rfl, rfl⟩
  go_wp2_with fail
  refine (fixed_any w).mono ?_
  rintro e w4 ⟨rfl, hb4⟩
  have B4 := Lib.hid hb4
  clear hb4
  go_wp2_with fail
  go_ret
  exact ⟨rfl, B4.out⟩
set_option maxRecDepth 100000 in
set_option maxHeartbeats 1000000 in
theorem treeOf_right (g o cap : Nat) (xs : List Nat) (w : World) (hc : ∀ (j x : Nat), xs[j]? = some x → w.cell? ⟨g, o + j, none⟩ = some (.int .u64 x)) (hl : xs.length = 64) (hx : ∀ x ∈ xs, x < 2 ^ 64) :
    Calls Try.prog 7 #[.slice (some ⟨g, o, none⟩) 64 cap] w fun e w' => TruePost w e w' := by
  have hof := Lib.hid (of_any g o cap xs w hc hl hx)
  have hr : IRow w .u64 (.slice (some ⟨g, o, none⟩) 64 cap) xs := ⟨_, cap, by rw [hl], fun _ => ⟨g, o, rfl, hc⟩⟩
  have HR := Lib.hid hr
  have HC := Lib.hid hc
  have HL := Lib.hid hl
  have HX := Lib.hid hx
  clear hc hl hx hr
  go_enter Try.func7, Try.ntmps7
  go_wp2_with fail
  refine (hof.out).mono ?_
  rintro e w1 ⟨t, rfl, ht, htn, hb1⟩
  have HT := Lib.hid ht
  have TN := Lib.hid htn
  have B1 := Lib.hid hb1
  clear ht htn hb1 hof
  go_wp2_with fail
  refine (new_any w1).mono ?_
  rintro e w2 ⟨u, rfl, hu, hun, hb2⟩
  have HTU : Hid (t ≠ u) := Lib.hid (by have := HT.out.lt; omega)
  have UN : Hid (w.heap.size ≤ u) := Lib.hid (Nat.le_trans B1.out.size hun)
  have HT2 := Lib.hid (HT.out.below hb2)
  have HU := Lib.hid hu
  have B2 := Lib.hid (B1.out.trans (hb2.mono B1.out.size))
  clear hu hun hb2 HT B1
  go_wp2_with fail
  go_loopw [43] (fun i wr => ∃ k : Nat, k ≤ 64 ∧ i = .int .i64 k ∧ Tr wr u (lvOf (xs.take k)) ∧ w2.grownBy wr (some u)) (fun i _ => 64 - (intOf i).toNat)
  case atStart => exact ⟨0, by omega, rfl, by rw [List.take_zero, lvOf_nil]; exact HU.out, ⟨rfl, rfl, rfl, Nat.le_refl _, fun _ _ _ => rfl⟩⟩
  case round =>
    obtain ⟨k, hk, rfl, hT, hg⟩ := hrel
    by_cases hlt : k < 64
    · obtain ⟨x, hx⟩ : ∃ x, xs[k]? = some x := ⟨_, List.getElem?_eq_getElem (by rw [HL.out]; omega)⟩
      have hcw := HC.out k x hx
      have hc2 := (B2.out.cell (World.block_lt_of_cell? w _ hcw)).trans hcw
      have hgu : g ≠ u := by have := UN.out; have : g < w.heap.size := World.block_lt_of_cell? w _ hcw; omega
      have hck := hg.cell hc2 (fun e => hgu (Option.some.inj e))
      have hfl := flip_any hT k hlt x (HX.out x (List.mem_of_getElem? hx))
      rw [← lvOf_more hx] at hfl
      have HFL := Lib.hid hfl
      have HG := Lib.hid hg
      have hkz : (0 : Int) ≤ (k : Int) := by omega
      have hkn : (k : Int) < 64 := by omega
      clear hcw hc2 hgu hfl hg hT hx
      go_wp2_with fail
      refine (HFL.out).mono ?_
      rintro e w9 ⟨rfl, hV9, hg9⟩
      have HV9 := Lib.hid hV9
      have HG9 := Lib.hid (grown_trans HG.out hg9)
      clear hV9 hg9 HFL hck HG
      go_wp2_with fail
      go_roundw
      case rel => exact ⟨k + 1, by omega, by go_num, HV9.out, HG9.out⟩
      case measure => simp [intOf]; omega
    · obtain rfl : k = 64 := by omega
      rw [List.take_of_length_le (by rw [HL.out]; exact Nat.le_refl _)] at hT
      have HT3 := Lib.hid (HT2.out.other hg HTU.out)
      have HU3 := Lib.hid hT
      have B3 := Lib.hid (below_grown B2.out hg B2.out.size UN.out)
      clear hT hg HT2 HU B2 hlt hk HC HX
      obtain ⟨wo, rfl⟩ : ∃ wo : World, wo = wr := ⟨_, rfl⟩
      go_wp2_with fail
      go_loopw [53] (fun i wr => ∃ k m : Nat, k ≤ 128 ∧ i = .int .i64 k ∧ wr = wo.drewN m) (fun i _ => 128 - (intOf i).toNat)
      case atStart => exact ⟨0, 0, by omega, rfl, rfl⟩
      case round =>
        obtain ⟨k, m, hk, rfl, rfl⟩ := hrel
        by_cases hlt : k < 128
        · have hkn : (k : Int) < 128 := by omega
          go_wp2_with fail
          refine (node_any (HT3.out.drewN m) ((k : Int) % 7) k).mono ?_
          rintro e w10 ⟨rfl, n10, rfl⟩
          go_wp2_with fail
          refine (node_any (HU3.out.drewN (m + n10)) ((k : Int) % 7) k).mono ?_
          rintro e w11 ⟨rfl, n11, rfl⟩
          go_wp2_with fail
          go_roundw
          case rel => exact ⟨_, _, .int .i64 ((k : Int) + 1), _, _, _, _, _, _, _, _, _, _, _, _, _, _, ⟨k + 1, _, by omega, by go_num, rfl⟩, rfl⟩
          case measure => simp [intOf]; omega
        · have hb := below_drewN B3.out m
          have HT4 := Lib.hid (HT3.out.drewN m)
          have HU4 := Lib.hid (HU3.out.drewN m)
          have B4 := Lib.hid hb
          clear hb HT3 HU3 B3
          go_wp2_with fail
          refine (fixed_any (wo.drewN m)).mono ?_
          rintro e w12 ⟨rfl, hb12⟩
          have HT5 := Lib.hid (HT4.out.below hb12)
          have HU5 := Lib.hid (HU4.out.below hb12)
          have B5 := Lib.hid (B4.out.trans (hb12.mono B4.out.size))
          clear hb12 HT4 HU4 B4
          go_wp2_with fail
          refine (root_any HT5.out).mono ?_
          rintro e w13 ⟨rfl, n13, rfl⟩
          go_wp2_with fail
          refine (root_any (HU5.out.drewN n13)).mono ?_
          rintro e w14 ⟨rfl, n14, rfl⟩
          go_wp2_with fail
          refine (leaves_any (HT5.out.drewN (n13 + n14))).mono ?_
          rintro e w15 ⟨l1, rfl, hi1, hb15⟩
          have hba := (below_drewN B5.out (n13 + n14)).trans (hb15.mono B5.out.size)
          rw [leavesOf_lvOf HL.out] at hi1
          have hsame := same21_any hi1 (HR.out.below hba) (by rw [HL.out]; decide)
          rw [decide_eq_true (Eq.refl xs)] at hsame
          have HS := Lib.hid hsame
          have B6 := Lib.hid hba
          clear hi1 hb15 hba hsame
          go_wp2_with fail
          refine (HS.out).mono ?_
          rintro e w16 ⟨rfl, n16, rfl⟩
          have BE := Lib.hid (below_drewN B6.out n16)
          go_wp2_with fail
          go_ret
          exact ⟨rfl, BE.out⟩
theorem natsOf {zs : List Int} (h : ∀ y ∈ zs, (Lit.int .u64 y).wf = true) : ∃ xs : List Nat, zs = xs.map (fun k : Nat => (k : Int)) ∧ ∀ x ∈ xs, x < 2 ^ 64 := by
  induction zs with
  | nil => exact ⟨[], rfl, by simp⟩
  | cons y r ih =>
    obtain ⟨n, hn, rfl⟩ := Mx.nat_of y (h y List.mem_cons_self)
    obtain ⟨xs, rfl, hx⟩ := ih (fun y hy => h y (List.mem_cons_of_mem _ hy))
    exact ⟨n :: xs, rfl, fun x hx' => by
      rcases List.mem_cons.1 hx' with rfl | h'
      · exact hn
      · exact hx x h'⟩
theorem treeOf_walk (a : Option Addr) (len cap : Nat) (zs : List Int) (w : World) (hrow : RowOf (fun y : Int => [.int .u64 y]) 1 (fun y => (Lit.int .u64 y).wf = true) w a len cap zs) (_hr : len * 8 ≤ 140737488351232) :
    Calls Try.prog 7 #[.slice a len cap] w fun e w' => TruePost w e w' := by
  by_cases h1 : 1000 < len
  · exact treeOf_long a len cap w h1
  by_cases h2 : len = 64
  · subst h2
    obtain ⟨xs, rfl, hx⟩ := natsOf hrow.good
    have hl : xs.length = 64 := by have := hrow.size; rwa [List.length_map] at this
    obtain ⟨y0, hy0⟩ : ∃ y0, xs[0]? = some y0 := ⟨_, List.getElem?_eq_getElem (by omega)⟩
    obtain ⟨b, o, rfl, _⟩ := hrow.cell 0 _ (by rw [List.getElem?_map, hy0]; rfl)
    refine treeOf_right b o cap xs w (fun j x hj => ?_) hl hx
    obtain ⟨b', o', e, hc⟩ := hrow.cell j _ (by rw [List.getElem?_map, hj]; rfl)
    cases e
    have h := hc 0 _ rfl
    rwa [show o + (j * 1 + 0) = o + j by omega] at h
  · exact treeOf_other a len cap w (by omega) h2
end Go.Proofs.Ytibgfmkgojeefaa
