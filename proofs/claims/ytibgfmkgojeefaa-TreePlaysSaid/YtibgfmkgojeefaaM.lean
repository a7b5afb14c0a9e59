/- The walk of TreeTwice: what is flipped twice is as it was; a nil tree has nothing. Conditions: the row lies as Go's slices do. -/
import Derived.Test.YtibgfmkgojeefaaL
namespace Go.Proofs.Ytibgfmkgojeefaa
open Go.RowKit Go.Maps Go.WideMaps Go.ChangeShapes Go.WideShapes Go.Deep

theorem leaves_nil (w : World) : Calls Try.prog 22 #[.pointer none] w fun e w' => e = .returned (.slice none 0 0) ∧ w = w' := by
  go_enter Try.func22, Try.ntmps22
  go_wp2
  go_ret
  exact ⟨rfl, rfl⟩
theorem apart_nil (q : Option Addr) (w : World) : Calls Try.prog 16 #[.pointer none, .pointer q] w fun e w' => e = .returned (.slice none 0 0) ∧ w = w' := by
  go_enter Try.func16, Try.ntmps16
  go_wp2
  go_ret
  exact ⟨rfl, rfl⟩
theorem apart_none (b : Nat) (w : World) : Calls Try.prog 16 #[.pointer (some ⟨b, 0, none⟩), .pointer none] w fun e w' => e = .returned (.slice none 0 0) ∧ w = w' := by
  go_enter Try.func16, Try.ntmps16
  go_wp2
  go_ret
  exact ⟨rfl, rfl⟩
def FlipAllPost (w : World) (b : Nat) (lv : Nat → Nat) (e : Ending) (w' : World) : Prop := (∃ c : Int, e = .returned (.int .i64 c)) ∧ Tr w' b lv ∧ w.grownBy w' (some b)
theorem flip_all {w : World} {b : Nat} {lv : Nat → Nat} (h : Tr w b lv) (f : FlipV) (hx : f.x < 2 ^ 64) :
    Calls Try.prog 18 #[.pointer (some ⟨b, 0, none⟩), .int .i64 f.i, .int .u64 f.x] w fun e w' => FlipAllPost w b (flipStep lv f) e w' := by
  obtain ⟨i, x⟩ := f
  by_cases hin : 0 ≤ i ∧ i < 64
  · obtain ⟨i, rfl⟩ := Int.eq_ofNat_of_zero_le hin.1
    rw [flipStep_in hin]
    exact (flip_any h i (by omega) x hx).mono fun e w' h => ⟨⟨0, h.1⟩, h.2⟩
  · rw [flipStep_out hin]
    exact (flip_bad b i x (by omega) w).mono fun e w' hh => by
      obtain ⟨rfl, rfl⟩ := hh
      exact ⟨⟨1, rfl⟩, h, ⟨rfl, rfl, rfl, Nat.le_refl _, fun _ _ _ => rfl⟩⟩
theorem turn_twice (lv : Nat → Nat) (i x : Nat) : turn (turn lv i x) i x = lv := by
  funext k
  unfold turn
  split
  · rw [Nat.xor_assoc, Nat.xor_self, Nat.xor_zero]
  · rfl
theorem step_twice (lv : Nat → Nat) (f : FlipV) : flipStep (flipStep lv f) f = lv := by
  by_cases h : 0 ≤ f.i ∧ f.i < 64
  · rw [flipStep_in h, flipStep_in h, turn_twice]
  · rw [flipStep_out h, flipStep_out h]
/-- A row of the arguments lies below what is made later. -/
theorem row_away {w : World} {a : Option Addr} {len cap : Nat} {L : List FlipV} (h : RowOf cells39 2 ok39 w a len cap L) {b : Nat} (hb : w.heap.size ≤ b) : ∀ g o, 0 < len → a = some ⟨g, o, none⟩ → g ≠ b := by
  intro g o hl he
  obtain ⟨f, hf⟩ : ∃ f, L[0]? = some f := ⟨_, List.getElem?_eq_getElem (by rw [h.size]; exact hl)⟩
  obtain ⟨g', o', he', hc⟩ := h.cell 0 f hf
  have := World.block_lt_of_cell? w _ (hc 0 _ rfl)
  rw [he] at he'
  injection he' with he'
  injection he' with h1
  have h2 : g' < w.heap.size := this
  omega
theorem row_keep {w w' : World} {a : Option Addr} {len cap : Nat} {L : List FlipV} (h : RowOf cells39 2 ok39 w a len cap L) (hb : Below w.heap.size w w') : RowOf cells39 2 ok39 w' a len cap L := h.below hb
theorem below_grown {B b : Nat} {a w w' : World} (h : Below B a w) (hg : w.grownBy w' (some b)) (hB : B ≤ w.heap.size) (hb : B ≤ b) : Below B a w' := h.grown hg hB (fun q hq => by cases hq; exact hb)
def TruePost (w : World) (e : Ending) (w' : World) : Prop := e = .returned (.bool true) ∧ Below w.heap.size w w'

set_option maxRecDepth 100000 in
set_option maxHeartbeats 1000000 in
theorem twice_walk (a : Option Addr) (len cap : Nat) (L : List FlipV) (f : FlipV) (w : World) (hrow : RowOf cells39 2 ok39 w a len cap L) (hr : len * 16 ≤ 140737488351232) (hok : ok39 f) :
    Calls Try.prog 8 #[.slice a len cap, .agg #[.int .i64 f.i, .int .u64 f.x]] w fun e w' => TruePost w e w' := by
  have HR := Lib.hid hrow
  have HOK := Lib.hid hok
  clear hrow hok
  obtain ⟨W0, hW0⟩ : ∃ W0, W0 = w.alloc (.cells #[.int .i64 f.i, .int .u64 (f.x : Int)] 39) := ⟨_, rfl⟩
  have hs0 : W0.heap.size = w.heap.size + 1 := by rw [hW0, st_size]
  have hbw : Below w.heap.size w W0 := by rw [hW0]; exact (Below.refl _ _).alloc (Nat.le_refl _) _
  have hf0 : W0.cell? ⟨w.heap.size, 0, none⟩ = some (.int .i64 f.i) := by rw [hW0]; exact cell_new rfl _ _ 0
  have hf1 : W0.cell? ⟨w.heap.size, 1, none⟩ = some (.int .u64 f.x) := by rw [hW0]; exact cell_new rfl _ _ 1
  have HW0 := Lib.hid hW0
  have S0 := Lib.hid hs0
  have BW := Lib.hid hbw
  have F0 := Lib.hid hf0
  have F1 := Lib.hid hf1
  clear hW0 hs0 hbw hf0 hf1
  go_enter Try.func8, Try.ntmps8
  go_wp2_with fail
  refine (new_any _).mono ?_
  rintro e w1 ⟨t, rfl, ht, htn, hb1⟩
  rw [← HW0.out] at htn hb1
  have HT := Lib.hid ht
  have TN := Lib.hid htn
  have B1 := Lib.hid hb1
  clear ht htn hb1
  go_wp2_with fail
  refine (new_any w1).mono ?_
  rintro e w2 ⟨u, rfl, hu, hun, hb2⟩
  have ht2 := HT.out.below hb2
  have HNE : Hid (t ≠ u) := Lib.hid (by have := HT.out.lt; omega)
  have UN : Hid (W0.heap.size ≤ u) := Lib.hid (Nat.le_trans B1.out.size hun)
  have HT2 := Lib.hid ht2
  have HU := Lib.hid hu
  have B2 := Lib.hid (B1.out.trans (hb2.mono B1.out.size))
  clear ht2 hu hun hb2 HT B1
  go_wp2_with fail
  refine (fixed_any w2).mono ?_
  rintro e w3 ⟨rfl, hb3⟩
  have HT3 := Lib.hid (HT2.out.below hb3)
  have HU3 := Lib.hid (HU.out.below hb3)
  have B3 := Lib.hid (B2.out.trans (hb3.mono B2.out.size))
  clear hb3 HT2 HU B2
  have hrow3 := HR.out.below (BW.out.trans (B3.out.mono (by have := S0.out; omega)))
  have hfl := flips_any HT3.out a len cap L hrow3 hr (row_away HR.out (by have := TN.out; have := S0.out; omega))
  have HFL := Lib.hid hfl
  clear hrow3 hfl
  go_wp2_with fail
  refine (HFL.out).mono ?_
  rintro e w4 ⟨rfl, ht4, hg4⟩
  have HT4 := Lib.hid ht4
  have HU4 := Lib.hid (HU3.out.other hg4 (fun e => HNE.out e.symm))
  have B4 := Lib.hid (below_grown B3.out hg4 B3.out.size TN.out)
  clear ht4 hg4 HT3 HU3 B3 HFL
  have hrow4 := HR.out.below (BW.out.trans (B4.out.mono (by have := S0.out; omega)))
  have hfl := flips_any HU4.out a len cap L hrow4 hr (row_away HR.out (by have := UN.out; have := S0.out; omega))
  have HFL := Lib.hid hfl
  clear hrow4 hfl
  go_wp2_with fail
  refine (HFL.out).mono ?_
  rintro e w5 ⟨rfl, hu5, hg5⟩
  have HU5 := Lib.hid hu5
  have HT5 := Lib.hid (HT4.out.other hg5 HNE.out)
  have B5 := Lib.hid (below_grown B4.out hg5 B4.out.size UN.out)
  clear hu5 hg5 HT4 HU4 B4 HFL
  have c0 := (B5.out.cell (p := ⟨w.heap.size, 0, none⟩) (by have := S0.out; show w.heap.size < W0.heap.size; omega)).trans F0.out
  have c1 := (B5.out.cell (p := ⟨w.heap.size, 1, none⟩) (by have := S0.out; show w.heap.size < W0.heap.size; omega)).trans F1.out
  go_wp2_with fail
  refine (flip_all HT5.out f HOK.out.2.2).mono ?_
  rintro e w6 ⟨⟨r6, rfl⟩, ht6, hg6⟩
  have HT6 := Lib.hid ht6
  have HU6 := Lib.hid (HU5.out.other hg6 (fun e => HNE.out e.symm))
  have B6 := Lib.hid (below_grown B5.out hg6 B5.out.size TN.out)
  clear ht6 hg6 HT5 HU5 B5 c0 c1
  have c0 := (B6.out.cell (p := ⟨w.heap.size, 0, none⟩) (by have := S0.out; show w.heap.size < W0.heap.size; omega)).trans F0.out
  have c1 := (B6.out.cell (p := ⟨w.heap.size, 1, none⟩) (by have := S0.out; show w.heap.size < W0.heap.size; omega)).trans F1.out
  go_wp2_with fail
  refine (flip_all HT6.out f HOK.out.2.2).mono ?_
  rintro e w7 ⟨⟨r7, rfl⟩, ht7, hg7⟩
  rw [step_twice] at ht7
  have HT7 := Lib.hid ht7
  have HU7 := Lib.hid (HU6.out.other hg7 (fun e => HNE.out e.symm))
  have B7 := Lib.hid (below_grown B6.out hg7 B6.out.size TN.out)
  clear ht7 hg7 HT6 HU6 B6 c0 c1
  have hw := walk_any HT7.out HU7.out
  rw [(found_same rfl).1, (found_same rfl).2] at hw
  have HW := Lib.hid hw
  clear hw
  go_wp2_with fail
  refine (HW.out).mono ?_
  rintro e w8 ⟨v, rfl, hown, hb8⟩
  obtain ⟨p8, c8, rfl, -⟩ := irow_of_own hown
  have HT8 := Lib.hid (HT7.out.below hb8)
  have B8 := Lib.hid (B7.out.trans (hb8.mono B7.out.size))
  clear hown hb8 HW HT7 HU7 B7
  go_wp2_with fail
  refine (walk_nil _ w8).mono ?_
  rintro e w9 ⟨v9, rfl, hown, hb9⟩
  have HT9 := Lib.hid (HT8.out.below hb9)
  have B9 := Lib.hid (B8.out.trans (hb9.mono B8.out.size))
  clear hown hb9 HT8 B8
  go_wp2_with fail
  refine (walk_none _ w9).mono ?_
  rintro e w10 ⟨v10, rfl, hown, hb10⟩
  have HT10 := Lib.hid (HT9.out.below hb10)
  have B10 := Lib.hid (B9.out.trans (hb10.mono B9.out.size))
  clear hown hb10 HT9 B9
  have c0 := (B10.out.cell (p := ⟨w.heap.size, 0, none⟩) (by have := S0.out; show w.heap.size < W0.heap.size; omega)).trans F0.out
  have c1 := (B10.out.cell (p := ⟨w.heap.size, 1, none⟩) (by have := S0.out; show w.heap.size < W0.heap.size; omega)).trans F1.out
  go_wp2_with fail
  refine (flip_nil f.i f.x w10).mono ?_
  rintro e w11 ⟨rfl, rfl⟩
  clear c0 c1
  go_wp2_with fail
  refine (root_nil w10).mono ?_
  rintro e w12 ⟨rfl, n12, rfl⟩
  have HT12 := Lib.hid (HT10.out.drewN n12)
  have B12 := Lib.hid (below_drewN B10.out n12)
  clear HT10 B10
  obtain ⟨w12, hw12⟩ : ∃ w12, w12 = w10.drewN n12 := ⟨_, rfl⟩
  rw [← hw12] at HT12 B12 ⊢
  clear hw12
  go_wp2_with fail
  refine (leaves_nil w12).mono ?_
  rintro e w13 ⟨rfl, rfl⟩
  go_wp2_with fail
  refine (apart_nil _ w12).mono ?_
  rintro e w13 ⟨rfl, rfl⟩
  go_wp2_with fail
  refine (apart_none _ w12).mono ?_
  rintro e w13 ⟨rfl, rfl⟩
  go_wp2_with fail
  go_ret
  exact ⟨rfl, BW.out.trans (B12.out.mono (by have := S0.out; omega))⟩
end Go.Proofs.Ytibgfmkgojeefaa
