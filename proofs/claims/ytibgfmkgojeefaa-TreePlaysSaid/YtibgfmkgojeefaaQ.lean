/- The contracts of slices.Clone and Leaves. -/
import Derived.Test.YtibgfmkgojeefaaN
namespace Go.Proofs.Ytibgfmkgojeefaa
open Go.RowKit

theorem info26 : (Try.prog.info? 26).map (fun i => (i.zero, i.size, i.bytes)) = some (some (.int .u64 0), 1, 8) := by kernel_rfl
def LeavesPost (w : World) (xs : List Nat) (e : Ending) (w' : World) : Prop :=
  ∃ v, e = .returned v ∧ IRow w' .u64 v xs ∧ Below w.heap.size w w'
theorem irow_of_own64 {w : World} {base : Nat} {v : Value} {xs : List Nat} (h : w.ownsRow base 26 1 v xs.length (xs.map (fun k : Nat => Value.int .u64 k))) : IRow w .u64 v xs := by
  rcases h.2 with ⟨rfl, h0⟩ | ⟨g, cap, cur, rfl, h1, h2, h3, h4, h5, h6⟩
  · exact ⟨none, 0, by rw [h0], fun hn => absurd (List.length_eq_zero_iff.1 h0) hn⟩
  · refine ⟨_, cap, rfl, fun _ => ⟨g, 0, rfl, fun j x hj => ?_⟩⟩
    rw [Nat.zero_add, cell_of_row w g j _ _ _ h2]
    have hlt : j < xs.length := (List.getElem?_eq_some_iff.1 hj).1
    have : (cur.toList.take (xs.length * 1))[j]? = some (.int .u64 x) := by rw [h6, List.getElem?_map, hj]; rfl
    rw [List.getElem?_take, if_pos (by omega)] at this
    rw [← this]
    simp
theorem clone_any (g o c : Nat) (xs : List Nat) (w : World) (hc : ∀ (j x : Nat), xs[j]? = some x → w.cell? ⟨g, o + j, none⟩ = some (.int .u64 x)) (h0 : xs.length ≤ 1000) :
    Calls Try.prog 27 #[.slice (some ⟨g, o, none⟩) xs.length c] w fun e w' => LeavesPost w xs e w' := by
  obtain ⟨i0, hi, hz0, hz1, hz2⟩ := info_parts info26
  have heq := fun (wx : World) => Lib.run_eql_slice_nil (P := Try.prog) wx 45 26 (some ⟨g, o, none⟩) xs.length c 0 0 Try.underlying45
  have hown : (w.alloc (.cells #[] 26)).ownsRow w.heap.size 26 1 (.slice (some ⟨w.heap.size, 0, none⟩) 0 0) 0 [] := World.ownsRow_lit w #[] 0 (Nat.le_refl _) (Nat.zero_le _) rfl
  go_enter Try.func27, Try.ntmps27
  go_wp2_with (first
    | (at_builtin; refine wpList_append_own _ rfl _ _ 45 rfl w.heap.size 26 i0 (.int .u64 0) 1 8 Try.underlying45 hi hz0 hz1 hz2 rfl (by decide) _ _ _ rfl hown ⟨g, o, none⟩ xs.length c (xs.map (fun k : Nat => Value.int .u64 k)) rfl (by simp) ?c1 ?c2 ?c3 ?c4 ?c5 ?_))
  case c1 =>
    intro j u hj
    rw [List.getElem?_map] at hj
    obtain ⟨s, hs, rfl⟩ := Option.map_eq_some_iff.1 hj
    have h1 := hc j s hs
    have hadd : (⟨g, o, none⟩ : Addr).add j = ⟨g, o + j, none⟩ := by unfold Addr.add; split <;> simp_all
    rw [hadd]
    exact (World.cell?_alloc_lt w _ _ (World.block_lt_of_cell? w _ h1)).trans h1
  case c2 => intro u hu; simp at hu; obtain ⟨s, _, rfl⟩ := hu; rfl
  case c3 => unfold maxLen; omega
  case c4 => omega
  case c5 => simp
  intro v' w1 hown1 hg1 _
  have hb1 : Below w.heap.size w w1 := ((Below.refl _ _).alloc (Nat.le_refl _) _).grown hg1 (by simp) (fun q hq => (hown.lt q hq).1)
  have HI := Lib.hid (irow_of_own64 hown1)
  have HB := Lib.hid hb1
  clear hown1 hb1 hg1 hown hc heq
  go_wp2
  go_ret
  exact ⟨_, rfl, HI.out, HB.out⟩
def leavesOf (lv : Nat → Nat) : List Nat := (List.range 64).map lv
theorem leavesOf_len (lv : Nat → Nat) : (leavesOf lv).length = 64 := by simp [leavesOf]
theorem leavesOf_get {lv : Nat → Nat} {j x : Nat} (h : (leavesOf lv)[j]? = some x) : j < 64 ∧ x = lv j := by
  have hlt : j < 64 := by have := (List.getElem?_eq_some_iff.1 h).1; rwa [leavesOf_len] at this
  refine ⟨hlt, ?_⟩
  simp [leavesOf, hlt] at h
  exact h.symm
set_option maxRecDepth 100000 in
set_option maxHeartbeats 1000000 in
theorem leaves_any {w : World} {b : Nat} {lv : Nat → Nat} (h : Tr w b lv) : Calls Try.prog 22 #[.pointer (some ⟨b, 0, none⟩)] w fun e w' => LeavesPost w (leavesOf lv) e w' := by
  have hc := clone_any b 64 64 (leavesOf lv) w (fun j x hj => by
    obtain ⟨hlt, rfl⟩ := leavesOf_get hj
    have := (h.node (k := 64 + j) (by omega) (by omega)).1
    rwa [nd_leaf] at this) (by rw [leavesOf_len]; decide)
  rw [leavesOf_len] at hc
  have HC := Lib.hid hc
  clear h hc
  go_enter Try.func22, Try.ntmps22
  go_wp2_with fail
  refine (HC.out).mono ?_
  rintro e w' ⟨v, rfl, hi, hb⟩
  have HI := Lib.hid hi
  have HB := Lib.hid hb
  clear hi hb HC
  go_wp2_with fail
  go_ret
  exact ⟨_, rfl, HI.out, HB.out⟩
end Go.Proofs.Ytibgfmkgojeefaa
