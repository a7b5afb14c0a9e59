/- The walk of CountRound: a count that was added to is never less than it was, and never less than what was added. Conditions: the row of numbers lies as Go's slices do. -/
import Derived.Test.YtackgcbfpkndjaaF
import Derived.Test.YtackgcbfpkndjaaV
import Derived.OpenShut
namespace Go.Proofs.Ytackgcbfpkndjaa
open Go.RowKit Go.Maps Go.WideMaps

theorem onesX : ∀ s ∈ [sX], s.size = 1 := by simp [szX]

set_option maxHeartbeats 1000000 in
theorem round_walk (a : Option Addr) (len cap : Nat) (zs : List Int) (w : World) (hrow : RowOf (fun y : Int => [.int .u64 y]) 1 (fun y => (Lit.int .u64 y).wf = true) w a len cap zs) (_hr : len * 8 ≤ 140737488351232) :
    Calls Try.prog 3 #[.slice a len cap] w fun e w' => TruePost w e w' := by
  have HR := Lib.hid hrow
  clear hrow
  go_enter Try.func3, Try.ntmps3
  go_wp2_with fail
  refine (new_ok ⟨w.heap.size, 0, none⟩ 1 [sX] _ (lit_cells [sX] w) (by decide) (by decide) (by simp) (ones onesX).1 (ones onesX).2).mono ?_
  rintro e w1 ⟨b, bn, bm, bv, rfl, hC, -, -, -, l3, hb⟩
  have hb1 : Below w.heap.size w w1 := ((Below.refl _ _).alloc (Nat.le_refl _) _).trans (hb.mono (by simp))
  have l : w.heap.size ≤ bv := by simp at l3; omega
  clear l3 hb
  go_wp2_with fail
  refine (fixed_any w1).mono ?_
  rintro e w2 ⟨rfl, hb⟩
  have hC2 := hC.below hb
  have hb2 := hb1.trans (hb.mono hb1.size)
  clear hC hb1 hb
  have HC2 := Lib.hid hC2
  have HB2 := Lib.hid hb2
  clear hC2 hb2
  go_wp2_with fail
  go_loopw [5, 22] (fun v i wr => ∃ (k : Nat) (x : Int), k ≤ len ∧ i = .int .i64 k ∧ v = .int .u64 x ∧ 0 ≤ x ∧ x ≤ 18446744073709551615 ∧ CountsAt wr b bn bm bv [sX] [x] ∧ Below w.heap.size w wr)
    (fun _ i _ => len - (intOf i).toNat)
  case atStart => exact ⟨0, 0, Nat.zero_le _, rfl, rfl, by omega, by omega, HC2.out, HB2.out⟩
  case round =>
    obtain ⟨k, x, hk, rfl, rfl, hx0, hx1, hC, hb⟩ := hrel
    by_cases hlt : k < len
    · obtain ⟨n, hn⟩ : ∃ n, zs[k]? = some n := ⟨_, List.getElem?_eq_getElem (by rw [HR.out.size]; exact hlt)⟩
      obtain ⟨bo, oo, rfl, hcell⟩ := HR.out.cell k n hn
      obtain ⟨hn0, hn1⟩ := bounds_u64 (HR.out.good n (List.mem_of_getElem? hn))
      have hcell0 := hcell 0 _ rfl
      rw [show oo + (k * 1 + 0) = oo + k by omega] at hcell0
      have hcw := (hb.cell (World.block_lt_of_cell? w _ hcell0)).trans hcell0
      clear hcell hcell0 hn
      by_cases h200 : k ≤ 200
      · obtain ⟨y, hy⟩ : ∃ y, y = addTo x n := ⟨_, rfl⟩
        have hy1 : x ≤ y := by rw [hy]; unfold addTo; split <;> omega
        have hy2 : n ≤ y := by rw [hy]; unfold addTo; split <;> omega
        have hy3 : y ≤ 18446744073709551615 := by rw [hy]; exact (addTo_range hx0 hn0).2
        have HY := Lib.hid hy
        have HB := Lib.hid hb
        clear hy hb
        go_wp2_with fail
        refine (add_hit hC sX 0 x n rfl rfl hn0 hn1).mono ?_
        rintro e w2 ⟨rfl, hw⟩
        rw [← HY.out] at hw
        have hC2 : CountsAt w2 b bn bm bv [sX] [y] := set_step hC hw (by omega)
        have hb2 := below_set HB.out hw l
        clear hw hC HB
        go_wp2_with fail
        refine (get_hit hC2 sX 0 y rfl rfl).mono ?_
        rintro e w3 ⟨rfl, rfl⟩
        go_wp2_with fail
        go_roundw
        case rel => exact ⟨k + 1, y, by omega, by go_num, rfl, by omega, by omega, hC2, hb2⟩
        case measure => simp [intOf]; omega
      · have HB := Lib.hid hb
        clear hb hC
        go_wp2
        go_ret
        exact ⟨rfl, HB.out⟩
    · have HB := Lib.hid hb
      clear hb hC
      go_wp2
      go_ret
      exact ⟨rfl, HB.out⟩
end Go.Proofs.Ytackgcbfpkndjaa
