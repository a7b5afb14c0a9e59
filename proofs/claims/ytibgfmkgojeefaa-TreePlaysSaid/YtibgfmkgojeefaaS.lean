/- The contract of a tree of given leaves. Conditions: the leaves lie as a Go slice does. -/
import Derived.Test.YtibgfmkgojeefaaR
import Derived.Laws.CopyOwn
namespace Go.Proofs.Ytibgfmkgojeefaa
open Go.RowKit Go.Maps Go.WideMaps Go.ChangeShapes Go.WideShapes Go.Deep

def lvOf (xs : List Nat) : Nat → Nat := fun j => xs[j]?.getD 0
theorem lvOf_get {xs : List Nat} {j x : Nat} (h : xs[j]? = some x) : lvOf xs j = x := by unfold lvOf; rw [h]; rfl
theorem lvOf_nil : lvOf [] = fun _ => 0 := by funext j; simp [lvOf]
theorem lvOf_more {xs : List Nat} {k x : Nat} (h : xs[k]? = some x) : lvOf (xs.take (k + 1)) = turn (lvOf (xs.take k)) k x := by
  have hlt : k < xs.length := (List.getElem?_eq_some_iff.1 h).1
  funext j
  unfold turn lvOf
  by_cases hj : j = k
  · subst hj
    rw [if_pos rfl, List.getElem?_take, List.getElem?_take, if_pos (by omega), if_neg (by omega), h]
    simp
  · rw [if_neg hj, List.getElem?_take, List.getElem?_take]
    by_cases h2 : j < k
    · rw [if_pos h2, if_pos (by omega)]
    · rw [if_neg h2, if_neg (by omega)]
theorem leavesOf_lvOf {xs : List Nat} (h : xs.length = 64) : leavesOf (lvOf xs) = xs := by
  apply List.ext_getElem?
  intro j
  by_cases hj : j < 64
  · simp only [leavesOf, lvOf, List.getElem?_map, List.getElem?_range hj, Option.map_some]
    rw [List.getElem?_eq_getElem (by omega)]; rfl
  · rw [List.getElem?_eq_none (by rw [leavesOf_len]; omega), List.getElem?_eq_none (by omega)]
theorem info26s : (Try.prog.info? 26).map (·.size) = some 1 := by kernel_rfl

/-- The nodes above i are right. -/
def From (lv : Nat → Nat) (L : List Nat) (i : Nat) : Prop := ∀ k, i < k → k < 128 → L[k]? = some (nd lv k)
theorem from_step {lv : Nat → Nat} {L : List Nat} {i : Nat} (h0 : 1 ≤ i) (h1 : i < 64) (h : From lv L i) (hl : L.length = 128) :
    L[2 * i]? = some (nd lv (2 * i)) ∧ L[2 * i + 1]? = some (nd lv (2 * i + 1)) ∧ From lv (L.set i (Mx.two (nd lv (2 * i)) (nd lv (2 * i + 1)))) (i - 1) := by
  refine ⟨h _ (by omega) (by omega), h _ (by omega) (by omega), fun k hk hk1 => ?_⟩
  by_cases hki : k = i
  · subst hki
    rw [List.getElem?_set_self (by omega), ← nd_up lv h0 h1]
  · rw [List.getElem?_set_ne (by omega)]
    exact h k (by omega) hk1
theorem from_start {xs : List Nat} (h : xs.length = 64) : From (lvOf xs) (List.replicate 64 0 ++ xs) 63 := by
  intro k hk hk1
  rw [List.getElem?_append_right (by simp; omega), nd_big _ (by omega), List.length_replicate]
  unfold lvOf
  rw [List.getElem?_eq_getElem (by omega)]
  rfl

def OfPost (w : World) (xs : List Nat) (e : Ending) (w' : World) : Prop := ∃ b, e = .returned (.tuple #[.pointer (some ⟨b, 0, none⟩), .int .i64 0]) ∧ Tr w' b (lvOf xs) ∧ w.heap.size ≤ b ∧ Below w.heap.size w w'

theorem of_bad (a : Option Addr) (len cap : Nat) (h : len ≠ 64) (w : World) : Calls Try.prog 23 #[.slice a len cap] w fun e w' => e = .returned (.tuple #[.pointer none, .int .i64 1]) ∧ w = w' := by
  have h0 : ((len : Int) == 64) = false := beq_eq_false_iff_ne.2 (by omega)
  have h1 : ((len : Int) != 64) = true := by rw [bne, h0]; rfl
  clear h
  go_enter Try.func23, Try.ntmps23
  go_wp2
  go_ret2
  exact ⟨rfl, rfl⟩

set_option maxRecDepth 100000 in
set_option maxHeartbeats 1000000 in
theorem of_any (g o cap : Nat) (xs : List Nat) (w : World) (hc : ∀ (j x : Nat), xs[j]? = some x → w.cell? ⟨g, o + j, none⟩ = some (.int .u64 x)) (hl : xs.length = 64) (hx : ∀ x ∈ xs, x < 2 ^ 64) :
    Calls Try.prog 23 #[.slice (some ⟨g, o, none⟩) 64 cap] w fun e w' => OfPost w xs e w' := by
  have hbd := build54
  have hcopy : Sem.run Try.prog (Builtin.copy_ #[45, 45] 3 #[.slice (some ⟨w.heap.size, 64, none⟩) 64 64, .slice (some ⟨g, o, none⟩) 64 cap]) (w.alloc (.cells zeroCells 54)) =
      .ok (.int .i64 64) ((w.alloc (.cells zeroCells 54)).setRow w.heap.size (nodeCells (List.replicate 64 0 ++ xs))) := by
    have h := run_copy_row (P := Try.prog) (w.alloc (.cells zeroCells 54)) 45 45 3 26 w.heap.size 64 64 64 ⟨g, o, none⟩ 64 cap zeroCells 54 (xs.map (fun k : Nat => Value.int .u64 k)) Try.underlying45 info26s (zero_at w).blk (by rw [List.length_map, hl]; rfl)
      (fun j v hj => by
        rw [List.getElem?_map] at hj
        obtain ⟨s, hs, rfl⟩ := Option.map_eq_some_iff.1 hj
        have h1 := hc j s hs
        have hadd : (⟨g, o, none⟩ : Addr).add j = ⟨g, o + j, none⟩ := by unfold Addr.add; split <;> simp_all
        rw [hadd]
        exact (World.cell?_alloc_lt w _ _ (World.block_lt_of_cell? w _ h1)).trans h1)
      (by rw [List.length_map, hl]; simp [zeroCells, nodeCells]) (fun v hv => by simp at hv; obtain ⟨s, _, rfl⟩ := hv; rfl)
    rw [h, List.length_map, hl]
    congr 2
    simp [zeroCells, nodeCells]
  have hT0 : TreeAt ((w.alloc (.cells zeroCells 54)).setRow w.heap.size (nodeCells (List.replicate 64 0 ++ xs))) w.heap.size (List.replicate 64 0 ++ xs) :=
    ⟨setRow_heap _ _ _ _ _ _ (zero_at w).blk, by simp [hl], fun x h => by
      rcases List.mem_append.1 h with h | h
      · rw [List.mem_replicate] at h; rw [h.2]; decide
      · exact hx x h⟩
  have hb0 : Below w.heap.size w ((w.alloc (.cells zeroCells 54)).setRow w.heap.size (nodeCells (List.replicate 64 0 ++ xs))) := below_setRow ((Below.refl _ _).alloc (Nat.le_refl _) _) (Nat.le_refl _) _
  have HF := Lib.hid (from_start hl)
  have HT0 := Lib.hid hT0
  have HB0 := Lib.hid hb0
  clear hc hl hx hT0 hb0
  go_enter Try.func23, Try.ntmps23
  go_wp2_with fail
  clear hcopy
  go_loopw [5] (fun v wr => ∃ (k : Nat) (L : List Nat), k < 64 ∧ v = .int .i64 k ∧ TreeAt wr w.heap.size L ∧ From (lvOf xs) L k ∧ Below w.heap.size w wr) (fun v _ => (intOf v).toNat)
  case atStart => exact ⟨63, _, by omega, rfl, HT0.out, HF.out, HB0.out⟩
  case round =>
    obtain ⟨k, L, hk, rfl, hT, hF, hb⟩ := hrel
    clear HT0 HF HB0
    by_cases h0 : 1 ≤ k
    · obtain ⟨s1, s2, s3⟩ := from_step h0 hk hF hT.len
      have HT := Lib.hid hT
      have HB := Lib.hid hb
      have HF := Lib.hid s3
      have HS1 := Lib.hid s1
      have HS2 := Lib.hid s2
      clear hT hb hF s1 s2 s3
      go_wp2_with fail
      refine (reckon_any HT.out k h0 hk _ _ HS1.out HS2.out).mono ?_
      rintro e w1 ⟨rfl, n, rfl⟩
      have hT1 : TreeAt ((wr.setCell ⟨w.heap.size, k, none⟩ (.int .u64 (Mx.two (nd (lvOf xs) (2 * k)) (nd (lvOf xs) (2 * k + 1)) : Nat))).drewN n) w.heap.size _ := (HT.out.set k _ (Mx.two_lt _ _)).heap rfl
      have hb1 : Below w.heap.size w ((wr.setCell ⟨w.heap.size, k, none⟩ (.int .u64 (Mx.two (nd (lvOf xs) (2 * k)) (nd (lvOf xs) (2 * k + 1)) : Nat))).drewN n) := by
        have h := HB.out.setCell (p := ⟨w.heap.size, k, none⟩) (Nat.le_refl _) (.int .u64 (Mx.two (nd (lvOf xs) (2 * k)) (nd (lvOf xs) (2 * k + 1)) : Nat))
        exact ⟨h.os, h.tape, h.output, h.size, h.block⟩
      have HT1 := Lib.hid hT1
      have HB1 := Lib.hid hb1
      clear hT1 hb1 HT HB HS1 HS2
      go_wp2_with fail
      go_roundw
      case rel => exact ⟨k - 1, _, by omega, by go_num, HT1.out, HF.out, HB1.out⟩
      case measure => simp [intOf]; omega
    · obtain rfl : k = 0 := by omega
      have HT := Lib.hid hT
      have HB := Lib.hid hb
      have HF := Lib.hid hF
      clear hT hb hF
      go_wp2
      go_ret2
      exact ⟨w.heap.size, rfl, ⟨_, HT.out, fun i h0 h1 => HF.out i h0 h1⟩, Nat.le_refl _, HB.out⟩
end Go.Proofs.Ytibgfmkgojeefaa
