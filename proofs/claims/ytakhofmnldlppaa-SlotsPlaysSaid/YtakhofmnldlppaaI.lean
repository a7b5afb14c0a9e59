/- The contract of the chapter's example (fixed), and the walk of SlotsNil. No conditions. -/
import Derived.Test.YtakhofmnldlppaaG
import Derived.Test.YtakhofmnldlppaaH
namespace Go.Proofs.Ytakhofmnldlppaa
open Go.RowKit

def sA : ByteArray := { data := #[97] }
def sB : ByteArray := { data := #[98] }
def L1 : List S := [⟨true, sA, 0, 5⟩, zeroS]
def L3 : List S := [⟨true, sA, 0, 7⟩, zeroS]
def L6 : List S := [zeroS, ⟨true, sB, 1, 6⟩]
theorem p0 : blank (slotsFor 1) = blank 2 := by kernel_rfl
theorem p1 : setP (blank 2) 1 0 sA 5 = (0, L1, 1) := by kernel_rfl
theorem p2 : setP L1 1 1 sB 6 = (6, L1, 1) := by kernel_rfl
theorem p3 : setP L1 1 1 sA 7 = (0, L3, 1) := by kernel_rfl
theorem p4 : getP L3 sA = (7, true) := by kernel_rfl
theorem p5 : dropP L3 1 sA = (true, blank 2, 0) := by kernel_rfl
theorem p6 : setP (blank 2) 1 0 sB 6 = (0, L6, 1) := by kernel_rfl
theorem szA : sA.size ≤ 9223372036854775807 := by decide
theorem szB : sB.size ≤ 9223372036854775807 := by decide
theorem fr1 : Free (blank 2) (hm (blank 2) sA) 0 := ⟨by decide, zeroS, by kernel_rfl, rfl⟩
theorem fr2 : Free L1 (hm L1 sB) 0 := ⟨by decide, zeroS, by kernel_rfl, rfl⟩
theorem fr3 : Free L1 (hm L1 sA) 1 := ⟨by decide, zeroS, by kernel_rfl, rfl⟩
theorem fr4 : Free L3 (hm L3 sA) 1 := ⟨by decide, zeroS, by kernel_rfl, rfl⟩
theorem fr6 : Free (blank 2) (hm (blank 2) sB) 0 := ⟨by decide, zeroS, by kernel_rfl, rfl⟩
theorem ho4 : ∀ x ∈ L3, x.home < L3.length := by decide
def TruePost (w : World) (e : Ending) (w' : World) : Prop := e = .returned (.bool true) ∧ Below w.heap.size w w'
set_option maxHeartbeats 1000000 in
theorem fixed_any (w : World) : Calls Try.prog 9 #[] w fun e w' => TruePost w e w' := by
  have hnew := new_any 1 (by decide) (by decide) w
  go_enter Try.func9, Try.ntmps9
  go_wp2_with fail
  refine (hnew).mono ?_
  rintro e w1 ⟨b, g, rfl, hT, hb, hg, hB⟩
  rw [p0] at hT
  have HT := Lib.hid hT
  have HB := Lib.hid hB
  have HN : Hid (Near w1 w1 b g) := Lib.hid (Near.of_below (Below.refl _ _))
  have HBG := Lib.hid (And.intro hb hg)
  clear hT hB hnew hb hg
  go_wp2_with fail
  refine (set_any HT.out (by decide) (by decide) (by decide) sA szA 5 0 fr1).mono ?_
  rintro e w2 ⟨rfl, hT, hN⟩
  rw [p1] at hT ⊢
  have HT2 := Lib.hid hT
  have HN2 := Lib.hid (HN.out.trans hN)
  clear hT hN HT HN
  go_wp2_with fail
  refine (set_any HT2.out (by decide) (by decide) (by decide) sB szB 6 0 fr2).mono ?_
  rintro e w3 ⟨rfl, hT, hN⟩
  rw [p2] at hT ⊢
  have HT3 := Lib.hid hT
  have HN3 := Lib.hid (HN2.out.trans hN)
  clear hT hN HT2 HN2
  go_wp2_with fail
  refine (set_any HT3.out (by decide) (by decide) (by decide) sA szA 7 1 fr3).mono ?_
  rintro e w4 ⟨rfl, hT, hN⟩
  rw [p3] at hT ⊢
  have HT4 := Lib.hid hT
  have HN4 := Lib.hid (HN3.out.trans hN)
  clear hT hN HT3 HN3
  go_wp2_with fail
  refine (get_any HT4.out (by decide) sA szA 1 fr4).mono ?_
  rintro e w5 ⟨rfl, hB⟩
  rw [p4]
  have HT5 := Lib.hid (HT4.out.below hB)
  have HN5 := Lib.hid (HN4.out.trans (Near.of_below hB))
  clear hB HT4 HN4
  go_wp2_with fail
  refine (drop_any HT5.out (by decide) (by decide) sA szA 1 fr4 (fun _ => Nat.le_refl _) ho4).mono ?_
  rintro e w6 ⟨rfl, hT, hN⟩
  rw [p5] at hT ⊢
  have HT6 := Lib.hid hT
  have HN6 := Lib.hid (HN5.out.trans hN)
  clear hT hN HT5 HN5
  go_wp2_with fail
  refine (set_any HT6.out (by decide) (by decide) (by decide) sB szB 6 0 fr6).mono ?_
  rintro e w7 ⟨rfl, hT, hN⟩
  rw [p6] at hT ⊢
  have HT7 := Lib.hid hT
  have HN7 := Lib.hid (HN6.out.trans hN)
  clear hT hN HT6 HN6
  go_wp2_with fail
  refine (len_any HT7.out).mono ?_
  rintro e w8 ⟨rfl, rfl⟩
  go_wp2_with fail
  go_ret
  exact ⟨rfl, HB.out.trans (HN7.out.below HB.out.size HBG.out.1 HBG.out.2)⟩
set_option maxHeartbeats 1000000 in
theorem slotsNil_walk (s : ByteArray) (v : Int) (w : World) : Calls Try.prog 6 #[.string s, .int .i64 v] w fun e w' => TruePost w e w' := by
  go_enter Try.func6, Try.ntmps6
  go_wp2_with fail
  refine (get_nil s w).mono ?_
  rintro e w1 ⟨rfl, rfl⟩
  go_wp2_with fail
  refine (fixed_any w).mono ?_
  rintro e w1 ⟨rfl, hb⟩
  have HB := Lib.hid hb
  clear hb
  go_wp2_with fail
  refine (set_nil s v w1).mono ?_
  rintro e w2 ⟨rfl, rfl⟩
  go_wp2_with fail
  refine (drop_nil s w1).mono ?_
  rintro e w2 ⟨rfl, rfl⟩
  go_wp2_with fail
  refine (len_nil w1).mono ?_
  rintro e w2 ⟨rfl, rfl⟩
  go_wp2_with fail
  refine (keys_nil w1).mono ?_
  rintro e w2 ⟨rfl, rfl⟩
  go_wp2_with fail
  refine (slot_nil s w1).mono ?_
  rintro e w2 ⟨rfl, rfl⟩
  go_wp2_with fail
  go_ret
  exact ⟨rfl, HB.out⟩
theorem nil_walk (s : ByteArray) (v : Int) (w : World) (_hs : s.size ≤ 140737488351232) (_hv : (Lit.int .i64 v).wf = true) : Calls Try.prog 6 #[.string s, .int .i64 v] w fun e w' => TruePost w e w' := slotsNil_walk s v w
end Go.Proofs.Ytakhofmnldlppaa
