/- The contract of the laws' example. -/
import Derived.Test.YthpfknigommheaaVc
import Derived.Test.YthpfknigommheaaVd
namespace Go.Proofs.Ythpfknigommheaa
open Go.RowKit PViewTells Go.Proofs.YthpfknigommheaaW.PrintWords

def news0 : List S36 := [⟨1, ⟨3, 0⟩⟩, ⟨1, ⟨1, 0⟩⟩, ⟨1, ⟨1, 1⟩⟩, ⟨0, ⟨2, 4⟩⟩]
theorem heard0 : heard 0 (List.replicate 3 one) news0 = ([⟨1, 5⟩, ⟨1, 1⟩, ⟨1, 0⟩], [⟨1, ⟨3, 0⟩⟩, ⟨1, ⟨1, 1⟩⟩, ⟨0, ⟨1, 5⟩⟩]) := by kernel_rfl
theorem newsR_lit {w : World} {b : Nat} {l : List S36} (h : w.heap[b]? = some (.cells (newsC l).toArray 36 (0, 0))) : NewsR w (some ⟨b, 0, none⟩) l := fun i x hx => by
  have key : ∀ j u, (newsC l)[j]? = some u → w.cell? ⟨b, j, none⟩ = some u := fun j u hj => by
    rw [cell_of_row w b j _ _ _ h]; simpa using hj
  refine ⟨b, 0, rfl, ?_, ?_, ?_⟩
  · rw [Nat.zero_add]; exact key _ _ (flat_get len36 l i 0 x hx (by decide))
  · rw [Nat.zero_add]; exact key _ _ (flat_get len36 l i 1 x hx (by decide))
  · rw [Nat.zero_add]; exact key _ _ (flat_get len36 l i 2 x hx (by decide))
theorem MemO.arg {w : World} {B : Nat} {v : Value} {xs : List S33} (h : MemO w B v xs) : ∃ A cap, v = .slice A xs.length cap ∧ MemA w A cap xs := by
  obtain ⟨A, cap, rfl, hc, hr⟩ := h.reads
  refine ⟨A, cap, rfl, hr, fun hA => ?_, hc⟩
  subst hA
  rcases h.2 with ⟨h1, h2⟩ | ⟨g, cap', cur, h1, _⟩
  · injection h1 with _ _ h3
    exact ⟨List.length_eq_zero_iff.1 h2, h3⟩
  · cases h1
theorem NewsO.arg {w : World} {B : Nat} {v : Value} {xs : List S36} (h : NewsO w B v xs) : ∃ A cap, v = .slice A xs.length cap ∧ NewsA w A cap xs := by
  obtain ⟨A, cap, rfl, hc, hr⟩ := h.reads
  exact ⟨A, cap, rfl, hr, hc⟩
set_option maxRecDepth 100000 in
set_option maxHeartbeats 2000000 in
theorem fixed_any (w : World) : Calls Try.prog 10 #[] w fun e w' => e = .returned (.bool true) ∧ Below w.heap.size w w' := by
  have hf := Lib.hid (fresh_good 3 (by decide) (by decide) w)
  go_enter Try.func10, Try.ntmps10
  go_wp2_with fail
  refine (hf.out).mono ?_
  rintro e w1 ⟨v, rfl, hv, hb1⟩
  obtain ⟨A, cap, rfl, ha⟩ := hv.arg
  have hba : Below w1.heap.size w1 (w1.alloc (.cells #[.int .u8 1, .int .u8 3, .int .u32 0, .int .u8 1, .int .u8 1, .int .u32 0, .int .u8 1, .int .u8 1, .int .u32 1, .int .u8 0, .int .u8 2, .int .u32 4] 36)) := (Below.refl _ _).alloc (Nat.le_refl _) _
  have hh := hear_any A cap (List.replicate 3 one) 0 (some ⟨w1.heap.size, 0, none⟩) 4 news0 _ (ha.below hba) (by decide) ⟨newsR_lit (l := news0) (heap_alloc_new w1 (.cells #[.int .u8 1, .int .u8 3, .int .u32 0, .int .u8 1, .int .u8 1, .int .u32 0, .int .u8 1, .int .u8 1, .int .u32 1, .int .u8 0, .int .u8 2, .int .u32 4] 36)), by decide⟩ (by decide)
    (fun x hx => by rw [List.mem_replicate] at hx; rw [hx.2]; unfold ok33 one; decide) (fun x hx => by
      simp [news0] at hx
      rcases hx with rfl | rfl | rfl | rfl <;> (unfold ok36 ok33; decide))
  rw [heard0] at hh
  have HH := Lib.hid hh
  have HB := Lib.hid (hb1.alloc hb1.size (.cells #[.int .u8 1, .int .u8 3, .int .u32 0, .int .u8 1, .int .u8 1, .int .u32 0, .int .u8 1, .int .u8 1, .int .u32 1, .int .u8 0, .int .u8 2, .int .u32 4] 36))
  have hs1 := Lib.hid hb1.size
  clear hv hb1 hf ha hba hh
  go_wp2_with fail
  refine (HH.out).mono ?_
  rintro e w2 ⟨a, b, rfl, hm, hn, hb2⟩
  obtain ⟨g, cg, rfl, _, _, c0, c1⟩ := hm.at (i := 0) rfl
  obtain ⟨g', cg', e1, _, _, c2, c3⟩ := hm.at (i := 1) rfl
  cases e1
  obtain ⟨An, cn, rfl, _⟩ := hn.reads
  have HB2 := Lib.hid (HB.out.trans (hb2.mono HB.out.size))
  have heq := eqA33
  clear hm hn hb2 HH HB
  go_wp2_with fail
  go_ret
  exact ⟨rfl, HB2.out⟩
end Go.Proofs.Ythpfknigommheaa
