/- The contracts of both Aparts. Conditions: the trees are ours; the arrays have numbers of 64 bits. -/
import Derived.Test.YtibgfmkgojeefaaS
import Derived.BigRegion
import Derived.Deep.DeepCutAuto
import Derived.Deep.RegionWith
namespace Go.Proofs.Ytibgfmkgojeefaa
open Go.RowKit Go.Maps Go.WideMaps Go.ChangeShapes Go.WideShapes Go.Deep

def apartOf (a b : Nat → Nat) (k : Nat) : List Nat := (List.range k).filter (fun j => decide (a j ≠ b j))
theorem apartOf_same {a b : Nat → Nat} {k : Nat} (h : a k = b k) : apartOf a b (k + 1) = apartOf a b k := by
  simp [apartOf, List.range_succ, h]
theorem apartOf_more {a b : Nat → Nat} {k : Nat} (h : a k ≠ b k) : apartOf a b (k + 1) = apartOf a b k ++ [k] := by
  simp [apartOf, List.range_succ, h]
theorem apartOf_len (a b : Nat → Nat) (k : Nat) : (apartOf a b k).length ≤ k := by
  have := List.length_filter_le (fun j => decide (a j ≠ b j)) (List.range k)
  rw [List.length_range] at this
  exact this
def RowPost (w : World) (xs : List Nat) (e : Ending) (w' : World) : Prop :=
  ∃ v, e = .returned v ∧ w'.ownsRow w.heap.size 3 1 v xs.length (xs.map (fun k : Nat => Value.int .i64 k)) ∧ Below w.heap.size w w'
theorem own_drewN {w : World} {B e s n : Nat} {v : Value} {xs : List Value} (h : w.ownsRow B e s v n xs) (k : Nat) : (w.drewN k).ownsRow B e s v n xs := h
theorem arr_index (m : Nat → Nat) {k : Nat} (h : k < 64) : (arr m)[k]? = some (.int .u64 (m k)) := arr_get m h

set_option maxRecDepth 100000 in
set_option maxHeartbeats 1000000 in
theorem apart_any {w : World} {bt bu : Nat} {lt lu : Nat → Nat} (ht : Tr w bt lt) (hu : Tr w bu lu) :
    Calls Try.prog 16 #[.pointer (some ⟨bt, 0, none⟩), .pointer (some ⟨bu, 0, none⟩)] w fun e w' => RowPost w (apartOf lt lu 64) e w' := by
  obtain ⟨i0, hi, hz0, hz1, hz2⟩ := info_parts info3
  have HT := Lib.hid ht
  have HU := Lib.hid hu
  clear ht hu
  go_enter Try.func16, Try.ntmps16
  go_wp2_with fail
  go_loopw [5, 14] (fun v i wr => ∃ k : Nat, k ≤ 64 ∧ i = .int .i64 k ∧ wr.ownsRow w.heap.size 3 1 v (apartOf lt lu k).length ((apartOf lt lu k).map (fun k : Nat => Value.int .i64 k)) ∧ Below w.heap.size w wr) (fun _ i _ => 64 - (intOf i).toNat)
  case atStart => exact ⟨0, Nat.zero_le _, rfl, World.ownsRow_nil _ _ _ _, Below.refl _ _⟩
  case round =>
    obtain ⟨k, hk, rfl, hown, hb⟩ := hrel
    by_cases hlt : k < 64
    · have c1 := ((HT.out.below hb).node (k := 64 + k) (by omega) (by omega)).1
      have c2 := ((HU.out.below hb).node (k := 64 + k) (by omega) (by omega)).1
      rw [nd_leaf] at c1 c2
      have e1 : (0 : Int) ≤ 64 + (k : Int) := by omega
      have e2 : 64 + (k : Int) < 128 := by omega
      have e3 : (64 + (k : Int)).toNat = 64 + k := by omega
      have hkn : (k : Int) < 64 := by omega
      have hll := apartOf_len lt lu k
      by_cases he : lt k = lu k
      · have hs := apartOf_same (a := lt) (b := lu) he
        rw [← hs] at hown
        rw [he] at c1
        have HO := Lib.hid hown
        have HB := Lib.hid hb
        clear hown hb hs he hll
        go_wp2_with fail
        go_quiet (fail)
        go_wp2_with fail
        go_roundw
        case rel => exact ⟨k + 1, by omega, by go_num, HO.out, below_drewN HB.out nq⟩
        case measure => simp [intOf]; omega
      · have hs := apartOf_more (a := lt) (b := lu) he
        have hee : (((lt k : Nat) : Int) == ((lu k : Nat) : Int)) = false := beq_eq_false_iff_ne.2 (by omega)
        have hbn : (((lt k : Nat) : Int) != ((lu k : Nat) : Int)) = true := by rw [bne, hee]; rfl
        obtain ⟨xs, hxs⟩ : ∃ xs, xs = apartOf lt lu k := ⟨_, rfl⟩
        rw [← hxs] at hown hs hll
        have HS := Lib.hid hs
        have hsz := hb.size
        clear hs he hxs
        go_wp2_with fail
        go_quiet (fail)
        go_wp2_with (first
          | (at_builtin; refine wpList_append_own _ rfl _ _ 29 rfl w.heap.size 3 i0 (.int .i64 0) 1 8 Try.underlying29 hi hz0 hz1 hz2 rfl (by decide) _ _ _ rfl ((own_drewN hown nq).alloc _) ⟨wr.heap.size, 0, none⟩ 1 1 [.int .i64 k] rfl rfl ?c1 ?c2 ?c3 ?c4 ?c5 ?_)
          | fail)
        case c1 =>
          intro j u hj
          match j, hj with
          | 0, hj => simp at hj; subst hj; simp only [Addr.add]; exact cell_new rfl _ _ 0
        case c2 => intro u hu; simp at hu; subst hu; rfl
        case c3 => unfold maxLen; omega
        case c4 => omega
        case c5 => simp; omega
        intro v' w1 hown1 hg1 _
        have hb1 : Below w.heap.size w w1 := ((below_drewN hb nq).alloc hsz _).grown hg1 (by simp; omega) (fun q hq => (hown.lt q hq).1)
        have hown2 : w1.ownsRow w.heap.size 3 1 v' (apartOf lt lu (k + 1)).length ((apartOf lt lu (k + 1)).map (fun k : Nat => Value.int .i64 k)) := by
          rw [HS.out, List.length_append, List.map_append]; exact hown1
        have HO := Lib.hid hown2
        have HB := Lib.hid hb1
        clear hown hown1 hown2 hg1 hb hb1 c1 c2
        go_wp2_with fail
        go_roundw
        case rel => exact ⟨k + 1, by omega, by go_num, HO.out, HB.out⟩
        case measure => simp [intOf]; omega
    · obtain rfl : k = 64 := by omega
      have HO := Lib.hid hown
      have HB := Lib.hid hb
      clear hown hb
      go_wp2_with fail
      go_ret
      exact ⟨_, rfl, HO.out, HB.out⟩
set_option maxRecDepth 100000 in
set_option maxHeartbeats 1000000 in
theorem apart17_any (a b : Nat → Nat) (w : World) :
    Calls Try.prog 17 #[.agg (arr a), .agg (arr b)] w fun e w' => RowPost w (apartOf a b 64) e w' := by
  obtain ⟨i0, hi, hz0, hz1, hz2⟩ := info_parts info3
  go_enter Try.func17, Try.ntmps17
  go_wp2_with fail
  have hown0 : ((((w.alloc (.cells (arr a) 27)).alloc (.cells (arr b) 27))).alloc (.cells #[] 3)).ownsRow (w.heap.size + 2) 3 1 (.slice (some ⟨w.heap.size + 1 + 1, 0, none⟩) 0 0) 0 [] := by
    have h := World.ownsRow_lit (((w.alloc (.cells (arr a) 27)).alloc (.cells (arr b) 27))) (e := 3) (size := 1) (base := w.heap.size + 2) #[] 0 (by rw [st_size, st_size]; omega) (Nat.zero_le _) rfl
    rw [st_size, st_size] at h
    exact h
  have ha0 : ArrAt (w.alloc (.cells (arr a) 27)) w.heap.size a := ⟨heap_alloc_new _ _⟩
  have hb0 : ArrAt ((w.alloc (.cells (arr a) 27)).alloc (.cells (arr b) 27)) (w.heap.size + 1) b := ⟨by have h := heap_alloc_new (w.alloc (.cells (arr a) 27)) (.cells (arr b) 27); rw [st_size] at h; exact h⟩
  have ha1 : ArrAt ((((w.alloc (.cells (arr a) 27)).alloc (.cells (arr b) 27))).alloc (.cells #[] 3)) w.heap.size a := ⟨by
    rw [Below.heap_alloc _ _ _ (by rw [st_size, st_size]; omega), Below.heap_alloc _ _ _ (by rw [st_size]; omega)]; exact ha0.blk⟩
  have hb1 : ArrAt ((((w.alloc (.cells (arr a) 27)).alloc (.cells (arr b) 27))).alloc (.cells #[] 3)) (w.heap.size + 1) b := ⟨by
    rw [Below.heap_alloc _ _ _ (by rw [st_size, st_size]; omega)]; exact hb0.blk⟩
  have hbl : Below w.heap.size w ((((w.alloc (.cells (arr a) 27)).alloc (.cells (arr b) 27))).alloc (.cells #[] 3)) := (((Below.refl _ _).alloc (Nat.le_refl _) _).alloc (by rw [st_size]; omega) _).alloc (by rw [st_size, st_size]; omega) _
  have HA := Lib.hid ha1
  have HBB := Lib.hid hb1
  have HO0 := Lib.hid hown0
  have HBL := Lib.hid hbl
  clear ha0 hb0 ha1 hb1 hown0 hbl
  obtain ⟨w3, hw3⟩ : ∃ w3, w3 = ((((w.alloc (.cells (arr a) 27)).alloc (.cells (arr b) 27))).alloc (.cells #[] 3)) := ⟨_, rfl⟩
  have HSZ : Hid (w.heap.size + 2 ≤ w3.heap.size) := Lib.hid (by rw [hw3, st_size, st_size, st_size]; omega)
  rw [← hw3] at HA HBB HO0 HBL ⊢
  clear hw3
  go_loopw [5, 6] (fun v i wr => ∃ k : Nat, k ≤ 64 ∧ i = .int .i64 k ∧ wr.ownsRow (w.heap.size + 2) 3 1 v (apartOf a b k).length ((apartOf a b k).map (fun k : Nat => Value.int .i64 k)) ∧ Below (w.heap.size + 2) w3 wr) (fun _ i _ => 64 - (intOf i).toNat)
  case atStart => exact ⟨0, Nat.zero_le _, rfl, HO0.out, Below.refl _ _⟩
  case round =>
    obtain ⟨k, hk, rfl, hown, hb⟩ := hrel
    by_cases hlt : k < 64
    · have c1 := ArrAt.cell (w := wr) ⟨(hb.block _ (by omega)).trans HA.out.blk⟩ hlt
      have c2 := ArrAt.cell (w := wr) ⟨(hb.block _ (by omega)).trans HBB.out.blk⟩ hlt
      have e1 : (0 : Int) ≤ (k : Int) := by omega
      have hkn : (k : Int) < 64 := by omega
      have hll := apartOf_len a b k
      by_cases he : a k = b k
      · have hs := apartOf_same (a := a) (b := b) he
        rw [← hs] at hown
        rw [he] at c1
        have HO := Lib.hid hown
        have HB := Lib.hid hb
        clear hown hb hs he hll
        go_wp2_with fail
        go_quiet (fail)
        go_wp2_with fail
        go_roundw
        case rel => exact ⟨k + 1, by omega, by go_num, HO.out, below_drewN HB.out nq⟩
        case measure => simp [intOf]; omega
      · have hs := apartOf_more (a := a) (b := b) he
        have hee : (((a k : Nat) : Int) == ((b k : Nat) : Int)) = false := beq_eq_false_iff_ne.2 (by omega)
        have hbn : (((a k : Nat) : Int) != ((b k : Nat) : Int)) = true := by rw [bne, hee]; rfl
        obtain ⟨xs, hxs⟩ : ∃ xs, xs = apartOf a b k := ⟨_, rfl⟩
        rw [← hxs] at hown hs hll
        have HS := Lib.hid hs
        have hsz : w.heap.size + 2 ≤ wr.heap.size := Nat.le_trans HSZ.out hb.size
        clear hs he hxs
        go_wp2_with fail
        go_quiet (fail)
        go_wp2_with (first
          | (at_builtin; refine wpList_append_own _ rfl _ _ 29 rfl (w.heap.size + 2) 3 i0 (.int .i64 0) 1 8 Try.underlying29 hi hz0 hz1 hz2 rfl (by decide) _ _ _ rfl ((own_drewN hown nq).alloc _) ⟨wr.heap.size, 0, none⟩ 1 1 [.int .i64 k] rfl rfl ?c1 ?c2 ?c3 ?c4 ?c5 ?_)
          | fail)
        case c1 =>
          intro j u hj
          match j, hj with
          | 0, hj => simp at hj; subst hj; simp only [Addr.add]; exact cell_new rfl _ _ 0
        case c2 => intro u hu; simp at hu; subst hu; rfl
        case c3 => unfold maxLen; omega
        case c4 => omega
        case c5 => simp; omega
        intro v' w1 hown1 hg1 _
        have hb1 : Below (w.heap.size + 2) w3 w1 := ((below_drewN hb nq).alloc hsz _).grown hg1 (by simp; omega) (fun q hq => (hown.lt q hq).1)
        have hown2 : w1.ownsRow (w.heap.size + 2) 3 1 v' (apartOf a b (k + 1)).length ((apartOf a b (k + 1)).map (fun k : Nat => Value.int .i64 k)) := by
          rw [HS.out, List.length_append, List.map_append]; exact hown1
        have HO := Lib.hid hown2
        have HB := Lib.hid hb1
        clear hown hown1 hown2 hg1 hb hb1 c1 c2
        go_wp2_with fail
        go_roundw
        case rel => exact ⟨k + 1, by omega, by go_num, HO.out, HB.out⟩
        case measure => simp [intOf]; omega
    · obtain rfl : k = 64 := by omega
      have HO := Lib.hid hown
      have HB := Lib.hid hb
      clear hown hb
      go_wp2_with fail
      go_ret
      exact ⟨_, rfl, own_base HO.out (Nat.le_add_right _ _), HBL.out.trans (HB.out.mono (Nat.le_add_right _ _))⟩
end Go.Proofs.Ytibgfmkgojeefaa
