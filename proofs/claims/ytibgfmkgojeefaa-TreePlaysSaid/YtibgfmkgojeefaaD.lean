/- The contracts of a tree's New, Flip, Node and Root. Conditions: the tree is nil or one of ours. -/
import Derived.Test.YtibgfmkgojeefaaB
import Derived.Test.YtibgfmkgojeefaaC
import Derived.Deep.DeepCutAuto
namespace Go.Proofs.Ytibgfmkgojeefaa
open Go.RowKit

/-- Block b is the tree of the leaves lv. -/
def Tr (w : World) (b : Nat) (lv : Nat → Nat) : Prop := ∃ L, TreeAt w b L ∧ ∀ k, 1 ≤ k → k < 128 → L[k]? = some (nd lv k)
theorem Tr.below {w w' : World} {b : Nat} {lv : Nat → Nat} (h : Tr w b lv) (hb : Below w.heap.size w w') : Tr w' b lv := by obtain ⟨L, h1, h2⟩ := h; exact ⟨L, h1.below hb, h2⟩
theorem Tr.heap {w w' : World} {b : Nat} {lv : Nat → Nat} (h : Tr w b lv) (hb : w'.heap[b]? = w.heap[b]?) : Tr w' b lv := by obtain ⟨L, h1, h2⟩ := h; exact ⟨L, h1.heap hb, h2⟩
theorem Tr.lt {w : World} {b : Nat} {lv : Nat → Nat} (h : Tr w b lv) : b < w.heap.size := by obtain ⟨L, h1, h2⟩ := h; exact h1.lt
theorem Tr.node {w : World} {b : Nat} {lv : Nat → Nat} (h : Tr w b lv) {k : Nat} (h0 : 1 ≤ k) (h1 : k < 128) : w.cell? ⟨b, k, none⟩ = some (.int .u64 (nd lv k)) ∧ nd lv k < 2 ^ 64 := by
  obtain ⟨L, hL, hk⟩ := h
  exact ⟨hL.cell (hk k h0 h1), hL.wf _ (List.mem_of_getElem? (hk k h0 h1))⟩
def zeroCells : Array Value := nodeCells (List.replicate 128 0)

def NewPost (w : World) (e : Ending) (w' : World) : Prop := ∃ b, e = .returned (.pointer (some ⟨b, 0, none⟩)) ∧ Tr w' b (fun _ => 0) ∧ w.heap.size ≤ b ∧ Below w.heap.size w w'
theorem build54 (w : World) : (zeroValue 54).run Try.prog w = .ok (.agg zeroCells) w := by kernel_rfl
theorem zero_at (w : World) : TreeAt (w.alloc (.cells zeroCells 54)) w.heap.size (List.replicate 128 0) :=
  ⟨heap_alloc_new w _, by simp, by intro x hx; rw [List.mem_replicate] at hx; rw [hx.2]; decide⟩
theorem rep_get {n i : Nat} (h : i < n) : (List.replicate n (0 : Nat))[i]? = some 0 := by simp [h]
theorem rep_set (n i : Nat) : (List.replicate n (0 : Nat)).set i 0 = List.replicate n 0 := by
  apply List.ext_getElem?
  intro j
  rw [List.getElem?_set]
  split
  · rename_i e
    subst e
    split
    · rename_i h; simp at h; simp [h]
    · rename_i h; simp at h; simp [h]
  · rfl
set_option maxHeartbeats 400000 in
theorem new_any (w : World) : Calls Try.prog 9 #[] w fun e w' => NewPost w e w' := by
  have hbd := build54
  go_enter Try.func9, Try.ntmps9
  go_wp2_with fail
  go_loopw [2] (fun v wr => ∃ k : Nat, k < 64 ∧ v = .int .i64 k ∧ TreeAt wr w.heap.size (List.replicate 128 0) ∧ Below w.heap.size w wr) (fun v _ => (intOf v).toNat)
  case atStart => exact ⟨63, by omega, rfl, zero_at w, (Below.refl _ _).alloc (Nat.le_refl _) _⟩
  case round =>
    obtain ⟨k, hk, rfl, hT, hb⟩ := hrel
    by_cases h0 : 1 ≤ k
    · have HT := Lib.hid hT
      have HB := Lib.hid hb
      clear hT hb
      go_wp2_with fail
      refine (reckon_any HT.out k h0 hk 0 0 (rep_get (by omega)) (rep_get (by omega))).mono ?_
      rintro e w1 ⟨rfl, n, rfl⟩
      have hT1 : TreeAt ((wr.setCell ⟨w.heap.size, k, none⟩ (.int .u64 (Mx.two 0 0))).drewN n) w.heap.size (List.replicate 128 0) := by
        have h := (HT.out.set k (Mx.two 0 0) (Mx.two_lt _ _)).heap (w' := (wr.setCell ⟨w.heap.size, k, none⟩ (.int .u64 (Mx.two 0 0))).drewN n) rfl
        rw [Mx.two00, rep_set] at h
        rw [Mx.two00]
        exact h
      have hb1 : Below w.heap.size w ((wr.setCell ⟨w.heap.size, k, none⟩ (.int .u64 (Mx.two 0 0))).drewN n) := by
        have h := HB.out.setCell (p := ⟨w.heap.size, k, none⟩) (Nat.le_refl _) (.int .u64 (Mx.two 0 0))
        exact ⟨h.os, h.tape, h.output, h.size, h.block⟩
      have HT1 := Lib.hid hT1
      have HB1 := Lib.hid hb1
      clear hT1 hb1
      go_wp2_with fail
      go_roundw
      case rel => exact ⟨k - 1, by omega, by go_num, HT1.out, HB1.out⟩
      case measure => simp [intOf]; omega
    · have HT := Lib.hid hT
      have HB := Lib.hid hb
      clear hT hb
      go_wp2
      go_ret
      exact ⟨w.heap.size, rfl, ⟨_, HT.out, fun i h0 h1 => by rw [rep_get (by omega), nd_zero i h0 h1]⟩, Nat.le_refl _, HB.out⟩

theorem flip_nil (i : Int) (x : Int) (w : World) : Calls Try.prog 18 #[.pointer none, .int .i64 i, .int .u64 x] w fun e w' => e = .returned (.int .i64 1) ∧ w = w' := by
  by_cases h : i < 0
  · go_enter Try.func18, Try.ntmps18
    go_wp2
    go_ret
    exact ⟨rfl, rfl⟩
  · by_cases h2 : 64 ≤ i
    · go_enter Try.func18, Try.ntmps18
      go_wp2
      go_ret
      exact ⟨rfl, rfl⟩
    · go_enter Try.func18, Try.ntmps18
      go_wp2
      go_ret
      exact ⟨rfl, rfl⟩
theorem flip_bad (b : Nat) (i : Int) (x : Int) (h : i < 0 ∨ 64 ≤ i) (w : World) : Calls Try.prog 18 #[.pointer (some ⟨b, 0, none⟩), .int .i64 i, .int .u64 x] w fun e w' => e = .returned (.int .i64 1) ∧ w = w' := by
  rcases h with h | h
  · go_enter Try.func18, Try.ntmps18
    go_wp2
    go_ret
    exact ⟨rfl, rfl⟩
  · have h0 : ¬ i < 0 := by omega
    go_enter Try.func18, Try.ntmps18
    go_wp2
    go_ret
    exact ⟨rfl, rfl⟩
theorem grown_trans {a b c : World} {row : Option Nat} (h : a.grownBy b row) (k : b.grownBy c row) : a.grownBy c row :=
  ⟨k.os.trans h.os, k.tape.trans h.tape, k.output.trans h.output, Nat.le_trans h.size k.size, fun i hi hr => (k.block i (Nat.lt_of_lt_of_le hi h.size) hr).trans (h.block i hi hr)⟩
theorem grown_set (a : World) (p : Addr) (u : Value) : a.grownBy (a.setCell p u) (some p.block) :=
  ⟨rfl, rfl, rfl, by simp [World.setCell], fun k _ hr => heap_setCell_other a p k u (fun e => hr (by rw [e]))⟩
def FlipPost (w : World) (b : Nat) (lv : Nat → Nat) (e : Ending) (w' : World) : Prop := e = .returned (.int .i64 0) ∧ Tr w' b lv ∧ w.grownBy w' (some b)

set_option maxRecDepth 100000 in
set_option maxHeartbeats 1000000 in
theorem flip_any {w : World} {b : Nat} {lv : Nat → Nat} (h : Tr w b lv) (i : Nat) (hi : i < 64) (x : Nat) (hx : x < 2 ^ 64) :
    Calls Try.prog 18 #[.pointer (some ⟨b, 0, none⟩), .int .i64 i, .int .u64 x] w fun e w' => FlipPost w b (turn lv i x) e w' := by
  obtain ⟨L, hL, hk⟩ := h
  have cl := hL.cell (hk (64 + i) (by omega) (by omega))
  rw [nd_leaf, show 64 + i = i + 64 by omega] at cl
  have cf := hL.free (i + 64)
  have hlv := hL.wf _ (List.mem_of_getElem? (hk (64 + i) (by omega) (by omega)))
  rw [nd_leaf] at hlv
  have HX := Lib.hid (Mx.xorI (lv i) x hlv hx)
  have hS := but_start hk hL.len i x hi
  have hT := hL.set (64 + i) (lv i ^^^ x) (Mx.xor_lt hlv hx)
  have HS := Lib.hid hS
  have HT := Lib.hid hT
  have i0 : (0 : Int) ≤ (i : Int) + 64 := by omega
  have i1 : (i : Int) + 64 < 128 := by omega
  have i2 : ((i : Int) + 64).toNat = i + 64 := by omega
  have i3 : (i : Int) < 64 := by omega
  clear hL hk hlv hS hT hx
  go_enter Try.func18, Try.ntmps18
  go_wp2_with fail
  go_region
  rw [HX.out]
  have hT0 : TreeAt ((w.setCell ⟨b, i + 64, none⟩ (.int .u64 (lv i ^^^ x : Nat))).drew) b (L.set (64 + i) (lv i ^^^ x)) := by
    rw [show i + 64 = 64 + i by omega]; exact HT.out.heap rfl
  have hg0 : w.grownBy ((w.setCell ⟨b, i + 64, none⟩ (.int .u64 (lv i ^^^ x : Nat))).drew) (some b) := by
    have h := grown_set w ⟨b, i + 64, none⟩ (.int .u64 (lv i ^^^ x : Nat))
    exact ⟨h.os, h.tape, h.output, h.size, h.block⟩
  have HT0 := Lib.hid hT0
  have HG0 := Lib.hid hg0
  clear hT0 hg0 HT HX cl cf i0 i1 i2 i3
  go_wp2_with fail
  go_loopw [1] (fun v wr => ∃ (j : Nat) (M : List Nat), 1 ≤ j ∧ j < 128 ∧ v = .int .i64 j ∧ TreeAt wr b M ∧ But (turn lv i x) M j ∧ w.grownBy wr (some b)) (fun v _ => (intOf v).toNat)
  case atStart => exact ⟨64 + i, _, by omega, by omega, by go_num, HT0.out, HS.out, HG0.out⟩
  case round =>
    obtain ⟨j, M, hj0, hj1, rfl, hM, hB, hg⟩ := hrel
    clear HT0 HG0 HS
    by_cases h1 : 1 < j
    · obtain ⟨s1, s2, s3⟩ := but_step h1 hj1 hB hM.len
      have HM := Lib.hid hM
      have HB := Lib.hid s3
      have HG := Lib.hid hg
      have HS1 := Lib.hid s1
      have HS2 := Lib.hid s2
      clear hM hB hg s1 s2 s3
      go_wp2_with fail
      refine (reckon_any HM.out (j / 2) (by omega) (by omega) _ _ HS1.out HS2.out).mono ?_
      rintro e w1 ⟨rfl, n, rfl⟩
      have hT1 : TreeAt ((wr.setCell ⟨b, j / 2, none⟩ (.int .u64 (Mx.two (nd (turn lv i x) (2 * (j / 2))) (nd (turn lv i x) (2 * (j / 2) + 1)) : Nat))).drewN n) b _ := (HM.out.set (j / 2) _ (Mx.two_lt _ _)).heap rfl
      have hg1 : w.grownBy ((wr.setCell ⟨b, j / 2, none⟩ (.int .u64 (Mx.two (nd (turn lv i x) (2 * (j / 2))) (nd (turn lv i x) (2 * (j / 2) + 1)) : Nat))).drewN n) (some b) := by
        have h := grown_trans HG.out (grown_set wr ⟨b, j / 2, none⟩ (.int .u64 (Mx.two (nd (turn lv i x) (2 * (j / 2))) (nd (turn lv i x) (2 * (j / 2) + 1)) : Nat)))
        exact ⟨h.os, h.tape, h.output, h.size, h.block⟩
      have HT1 := Lib.hid hT1
      have HG1 := Lib.hid hg1
      clear hT1 hg1
      go_wp2_with fail
      go_roundw
      case rel => exact ⟨j / 2, _, by omega, by omega, by go_num, HT1.out, HB.out, HG1.out⟩
      case measure => simp [intOf]; omega
    · obtain rfl : j = 1 := by omega
      have HM := Lib.hid hM
      have HB := Lib.hid (but_end hB)
      have HG := Lib.hid hg
      clear hM hB hg
      go_wp2
      go_ret
      exact ⟨rfl, ⟨_, HM.out, HB.out⟩, HG.out⟩
end Go.Proofs.Ytibgfmkgojeefaa
