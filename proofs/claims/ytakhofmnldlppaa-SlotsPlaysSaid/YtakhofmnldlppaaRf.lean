/- The contract of the reference's Set. Conditions: a table in order. -/
import Derived.Test.YtakhofmnldlppaaRe
namespace Go.Proofs.Ytakhofmnldlppaa
open Go.RowKit

/-- Within a call of the reference's: the table's box at B, the result's behind it, its slots at g. -/
structure RS (w0 w : World) (B g : Nat) (L : List S) (m most : Nat) : Prop where
  below : Below w0.heap.size w0 w
  b0 : w0.heap.size ≤ B
  n1 : g ≠ B
  n2 : g ≠ B + 1
  box : w.heap[B]? = some (.cells #[.slice (some ⟨g, 0, none⟩) m m, .int .i64 most] 43 (0, 0))
  out : w.heap[B + 1]? = some (.cells #[.slice none 0 0, .int .i64 0] 43 (0, 0))
  ref : RefAt w g L
theorem RS.next {w0 w w' : World} {B g : Nat} {L : List S} {m most : Nat} (h : RS w0 w B g L m most) (k : Below w.heap.size w w') : RS w0 w' B g L m most :=
  ⟨h.below.trans (k.mono h.below.size), h.b0, h.n1, h.n2, (k.block _ (lt_of_block h.box)).trans h.box, (k.block _ (lt_of_block h.out)).trans h.out, h.ref.below k⟩
theorem RS.swap {w0 w w' : World} {B g g' : Nat} {L : List S} {m most : Nat} (h : RS w0 w B g L m most) (k : Below w.heap.size w w') (r : RefAt w' g' L) (hg : w.heap.size ≤ g') :
    RS w0 ((w'.setCell ⟨B, 0, none⟩ (.slice (some ⟨g', 0, none⟩) m m)).setCell ⟨B, 1, none⟩ (.int .i64 most)) B g' L m most := by
  have h' := h.next k
  have l1 := lt_of_block h.box
  have l2 := lt_of_block h.out
  have l3 := h.below.size
  refine ⟨(h'.below.setCell h.b0 _).setCell h.b0 _, h.b0, by omega, by omega, box_set h'.box, ?_, ?_⟩
  · rw [heap_setCell_other _ _ _ _ (by show B + 1 ≠ B; omega), heap_setCell_other _ _ _ _ (by show B + 1 ≠ B; omega)]
    exact h'.out
  · unfold RefAt
    rw [heap_setCell_other _ _ _ _ (by show g' ≠ B; omega), heap_setCell_other _ _ _ _ (by show g' ≠ B; omega)]
    exact r
/-- One cell of the slots is written. -/
theorem RS.write {w0 w : World} {B g : Nat} {L L' : List S} {m most : Nat} (h : RS w0 w B g L m most) (hg : w0.heap.size ≤ g) (j : Nat) (u : Value) (r : RefAt (w.setCell ⟨g, j, none⟩ u) g L') : RS w0 (w.setCell ⟨g, j, none⟩ u) B g L' m most :=
  ⟨h.below.setCell hg _, h.b0, h.n1, h.n2, (heap_setCell_other w _ _ _ (fun e => h.n1 e.symm)).trans h.box, (heap_setCell_other w _ _ _ (fun e => h.n2 e.symm)).trans h.out, r⟩
/-- The result's box is written. -/
theorem RS.fin {w0 w : World} {B g : Nat} {L : List S} {m most : Nat} (h : RS w0 w B g L m most) :
    (((w.setCell ⟨B + 1, 0, none⟩ (.slice (some ⟨g, 0, none⟩) m m)).setCell ⟨B + 1, 1, none⟩ (.int .i64 most)).drew).heap[B + 1]? = some (.cells #[.slice (some ⟨g, 0, none⟩) m m, .int .i64 most] 43 (0, 0)) ∧
    RefAt (((w.setCell ⟨B + 1, 0, none⟩ (.slice (some ⟨g, 0, none⟩) m m)).setCell ⟨B + 1, 1, none⟩ (.int .i64 most)).drew) g L ∧
    Below w0.heap.size w0 (((w.setCell ⟨B + 1, 0, none⟩ (.slice (some ⟨g, 0, none⟩) m m)).setCell ⟨B + 1, 1, none⟩ (.int .i64 most)).drew) := by
  refine ⟨box_set h.out, ?_, ?_⟩
  · have h1 : RefAt ((w.setCell ⟨B + 1, 0, none⟩ (.slice (some ⟨g, 0, none⟩) m m)).setCell ⟨B + 1, 1, none⟩ (.int .i64 most)) g L := by
      unfold RefAt
      rw [heap_setCell_other _ _ _ _ h.n2, heap_setCell_other _ _ _ _ h.n2]
      exact h.ref
    exact h1
  · have hb := h.b0
    exact ((h.below.setCell (p := ⟨B + 1, 0, none⟩) (by show w0.heap.size ≤ B + 1; omega) _).setCell (p := ⟨B + 1, 1, none⟩) (by show w0.heap.size ≤ B + 1; omega) _).drew
theorem rlen_n {w : World} {g : Nat} {L : List S} {most n : Nat} (h : RefAt w g L) (G : Good L most n) (mv : Int) :
    Calls Try.prog 21 #[.agg #[.slice (some ⟨g, 0, none⟩) L.length L.length, .int .i64 mv]] w fun e w' => e = .returned (.int .i64 n) ∧ Below w.heap.size w w' := by
  have := rlen_any h G.two.2 mv
  rw [G.cnt] at this
  exact this
theorem RS.write3 {w0 w : World} {B g : Nat} {L L' : List S} {m most : Nat} (h : RS w0 w B g L m most) (hg : w0.heap.size ≤ g) (j k l : Nat) (u v x : Value) (r : RefAt (((w.setCell ⟨g, j, none⟩ u).setCell ⟨g, k, none⟩ v).setCell ⟨g, l, none⟩ x) g L') : RS w0 (((w.setCell ⟨g, j, none⟩ u).setCell ⟨g, k, none⟩ v).setCell ⟨g, l, none⟩ x) B g L' m most := by
  refine ⟨((h.below.setCell hg _).setCell hg _).setCell hg _, h.b0, h.n1, h.n2, ?_, ?_, r⟩
  · rw [heap_setCell_other _ _ _ _ (fun e => h.n1 e.symm), heap_setCell_other _ _ _ _ (fun e => h.n1 e.symm), heap_setCell_other _ _ _ _ (fun e => h.n1 e.symm)]
    exact h.box
  · rw [heap_setCell_other _ _ _ _ (fun e => h.n2 e.symm), heap_setCell_other _ _ _ _ (fun e => h.n2 e.symm), heap_setCell_other _ _ _ _ (fun e => h.n2 e.symm)]
    exact h.out
theorem rlen_m {w : World} {g m : Nat} {L : List S} {most n : Nat} (hm : L.length = m) (h : RefAt w g L) (G : Good L most n) (mv : Int) :
    Calls Try.prog 21 #[.agg #[.slice (some ⟨g, 0, none⟩) m m, .int .i64 mv]] w fun e w' => e = .returned (.int .i64 n) ∧ Below w.heap.size w w' := by
  subst hm
  exact rlen_n h G mv
def RSetPost (w : World) (most : Nat) (p : Int × List S × Nat) (e : Ending) (w' : World) : Prop :=
  ∃ g, e = .returned (.tuple #[.int .i64 p.1, .agg #[.slice (some ⟨g, 0, none⟩) p.2.1.length p.2.1.length, .int .i64 most]]) ∧ RefAt w' g p.2.1 ∧ w.heap.size ≤ g ∧ Below w.heap.size w w'
theorem slot_neg {L : List S} {most n : Nat} (G : Good L most n) {s : ByteArray} (hs : s ∉ keysP L) : slotP L s = -1 := by
  unfold slotP
  rw [(G.miss hs).1, if_neg Bool.false_ne_true]
set_option maxRecDepth 100000 in
set_option maxHeartbeats 4000000 in
theorem rset_any {w : World} {g : Nat} {L : List S} {most n : Nat} (h : RefAt w g L) (G : Good L most n) (s : ByteArray) (hs : s.size ≤ 9223372036854775807) (v : Int) :
    Calls Try.prog 17 #[.agg #[.slice (some ⟨g, 0, none⟩) L.length L.length, .int .i64 most], .string s, .int .i64 v] w fun e w' => RSetPost w most (setP L most n s v) e w' := by
  obtain ⟨m, hml⟩ : ∃ m, L.length = m := ⟨_, rfl⟩
  have hgl := h.lt
  have hba : Below w.heap.size w (w.alloc (.cells #[.slice (some ⟨g, 0, none⟩) m m, .int .i64 most] 43)) := (Below.refl _ _).alloc (Nat.le_refl _) _
  have hbb : Below (w.alloc (.cells #[.slice (some ⟨g, 0, none⟩) m m, .int .i64 most] 43)).heap.size (w.alloc (.cells #[.slice (some ⟨g, 0, none⟩) m m, .int .i64 most] 43)) ((w.alloc (.cells #[.slice (some ⟨g, 0, none⟩) m m, .int .i64 most] 43)).alloc (.cells #[.slice none 0 0, .int .i64 0] 43)) := (Below.refl _ _).alloc (Nat.le_refl _) _
  have hsz1 : (w.alloc (.cells #[.slice (some ⟨g, 0, none⟩) m m, .int .i64 most] 43)).heap.size = w.heap.size + 1 := size_alloc _ _
  have hRS : RS w ((w.alloc (.cells #[.slice (some ⟨g, 0, none⟩) m m, .int .i64 most] 43)).alloc (.cells #[.slice none 0 0, .int .i64 0] 43)) w.heap.size g L m most := by
    refine ⟨hba.trans (hbb.mono hba.size), Nat.le_refl _, by omega, by omega, (hbb.block _ (by omega)).trans (heap_alloc_new w _), ?_, (h.below hba).below hbb⟩
    have := heap_alloc_new (w.alloc (.cells #[.slice (some ⟨g, 0, none⟩) m m, .int .i64 most] 43)) (.cells #[.slice none 0 0, .int .i64 0] 43)
    rw [hsz1] at this
    exact this
  have h0 : 1 ≤ m := by have := G.two.1; have := G.most1; omega
  have h1 : m ≤ 2048 := by rw [← hml]; exact G.two.2
  have HM := Lib.hid hml
  have HG := Lib.hid G
  have HS := Lib.hid hs
  obtain ⟨z0, z1, _, _⟩ := zero_two hRS.box
  have HR := Lib.hid hRS
  rw [hml]
  clear h hgl hba hbb hsz1 hRS hml G hs
  go_enter Try.func17, Try.ntmps17
  go_wp2_with fail
  obtain ⟨wa, hwa⟩ : ∃ wa, wa = (w.alloc (.cells #[.slice (some ⟨g, 0, none⟩) m m, .int .i64 most] 43)).alloc (.cells #[.slice none 0 0, .int .i64 0] 43) := ⟨_, rfl⟩
  rw [← hwa] at z0 z1 HR ⊢
  clear hwa
  have hat := rat_any HR.out.ref HG.out (most : Int) s
  rw [HM.out] at hat
  refine (hat).mono ?_
  rintro e w1 ⟨rfl, hB⟩
  have HR1 := Lib.hid (HR.out.next hB)
  obtain ⟨y0, y1, _, _⟩ := zero_two HR1.out.box
  clear hB HR z0 z1 hat
  go_wp2_with fail
  have hcp := copied_any HR1.out.ref (by rw [HM.out]; exact h1) (most : Int)
  rw [HM.out] at hcp
  refine (hcp).mono ?_
  rintro e w2 ⟨g2, he, hr, hg2, hB⟩
  rw [HM.out] at he
  subst he
  have HR2 := Lib.hid (HR1.out.swap hB hr hg2)
  have HG2 := Lib.hid (show w.heap.size ≤ g2 from Nat.le_trans HR1.out.below.size hg2)
  obtain ⟨x0, x1, x2, x3⟩ := zero_two (HR1.out.next hB).box
  clear hB hr hg2 HR1 y0 y1 hcp
  go_upto_region 3 with fail
  obtain ⟨w3, hw3⟩ : ∃ w3, w3 = ((w2.setCell ⟨w.heap.size, 0, none⟩ (.slice (some ⟨g2, 0, none⟩) m m)).setCell ⟨w.heap.size, 1, none⟩ (.int .i64 most)) := ⟨_, rfl⟩
  rw [← hw3] at HR2 ⊢
  clear hw3 x0 x1 x2 x3
  obtain ⟨x0, x1, x2, x3⟩ := zero_two HR2.out.box
  by_cases hmem : s ∈ keysP L
  · obtain ⟨p, hp, hpu, hpk⟩ := mem_keysP.1 hmem
    have hsl := (slot_here HG.out hmem).1
    have hset := setP_there HG.out hp hpu v
    have hhit := HG.out.hit hp hpu
    rw [hpk] at hset hhit
    rw [hhit] at hsl
    rw [hsl]
    have HSET := Lib.hid hset
    have HIX := Lib.hid (ix_get hp)
    have hpm : p < m := by rw [← HM.out]; exact hp
    have c := HR2.out.ref.at HIX.out
    have cf := HR2.out.ref.free (p * 3 + 2)
    obtain ⟨-, -, c2⟩ := c
    have hp0 : (0 : Int) ≤ (p : Int) := by omega
    have hp1 : (p : Int) < (m : Int) := by omega
    clear hmem hp hpu hpk hsl hset hhit
    go_wp2_with fail
    have hw := HR2.out.write HG2.out (p * 3 + 2) (.int .i64 v) (HR2.out.ref.put (y := withV (ix L p) v) HIX.out (by decide) rfl)
    obtain ⟨w4, hw4⟩ : ∃ w4, w4 = w3.setCell ⟨g2, p * 3 + 2, none⟩ (.int .i64 v) := ⟨_, rfl⟩
    rw [← hw4] at hw ⊢
    have HW := Lib.hid hw
    clear hw4 hw x0 x1 x2 x3 c2 cf HR2
    obtain ⟨d0, d1, d2, d3⟩ := zero_two (HW.out.box)
    obtain ⟨f0, f1, f2, f3⟩ := zero_two (HW.out.out)
    have hne : w.heap.size + 1 ≠ w.heap.size := by omega
    have HFIN := Lib.hid HW.out.fin
    go_region_held3 (fun w' => w'.cell? ⟨w.heap.size, 0, none⟩ = some (.slice (some ⟨g2, 0, none⟩) m m) ∧ w'.cell? ⟨w.heap.size, 1, none⟩ = some (.int .i64 most))
      ((go_split_ands; (try dsimp only); (refine ⟨?_, ?_⟩ <;> first | (with_reducible assumption) | (with_reducible exact drew_keep (by assumption)) | (with_reducible exact drew_keep (set2_far hne (by assumption))))))
      (first | fail)
    go_wp2
    refine bodyPost_ret (results_tmp_cell_row rfl _ _ (w.heap.size + 1) 43 _ (0, 0) _ rfl HFIN.out.1 Try.underlying43 rfl info43) rfl ?_
    exact ⟨g2, by rw [HSET.out]; simp only [List.length_set]; rw [HM.out]; rfl, by rw [HSET.out]; exact HFIN.out.2.1, HG2.out, HFIN.out.2.2⟩
  · rw [slot_neg HG.out hmem]
    have hl := rlen_n HR2.out.ref HG.out (most : Int)
    rw [HM.out] at hl
    go_wp2_with fail
    go_region_held3 (fun w' => w'.cell? ⟨w.heap.size, 0, none⟩ = some (.slice (some ⟨g2, 0, none⟩) m m) ∧ w'.cell? ⟨w.heap.size, 1, none⟩ = some (.int .i64 most))
      ((go_split_ands; (try dsimp only); (refine ⟨?_, ?_⟩ <;> first | (with_reducible assumption) | (with_reducible exact drew_keep (by assumption)) | (with_reducible exact cell_keep b21 (by assumption)))))
      (first | (go_at_call 21; refine (rlen_m HM.out (HR2.out.next ((Below.refl _ _).drew)).ref HG.out (most : Int)).mono ?_; rintro e w5 ⟨rfl, b21⟩))
    rename_i hHeld
    have HR5 := Lib.hid (HR2.out.next (below_undrew b21))
    clear hHeld b21 x0 x1 x2 x3 hl HR2
    by_cases hfull : n = most
    · have hz : (most : Int) ≤ (n : Int) := by omega
      have HSET := Lib.hid (show setP L most n s v = (6, L, n) from by subst hfull; exact setP_full HG.out hmem v)
      clear hfull
      go_wp2_with fail
      obtain ⟨d0, d1, d2, d3⟩ := zero_two (HR5.out.box)
      obtain ⟨f0, f1, f2, f3⟩ := zero_two (HR5.out.out)
      have hne : w.heap.size + 1 ≠ w.heap.size := by omega
      have HFIN := Lib.hid HR5.out.fin
      go_region_held3 (fun w' => w'.cell? ⟨w.heap.size, 0, none⟩ = some (.slice (some ⟨g2, 0, none⟩) m m) ∧ w'.cell? ⟨w.heap.size, 1, none⟩ = some (.int .i64 most))
        ((go_split_ands; (try dsimp only); (refine ⟨?_, ?_⟩ <;> first | (with_reducible assumption) | (with_reducible exact drew_keep (by assumption)) | (with_reducible exact drew_keep (set2_far hne (by assumption))))))
        (first | fail)
      go_wp2
      refine bodyPost_ret (results_tmp_cell_row rfl _ _ (w.heap.size + 1) 43 _ (0, 0) _ rfl HFIN.out.1 Try.underlying43 rfl info43) rfl ?_
      exact ⟨g2, by rw [HSET.out]; simp only; rw [HM.out]; rfl, by rw [HSET.out]; exact HFIN.out.2.1, HG2.out, HFIN.out.2.2⟩
    · have hle := HG.out.le
      have hlt : ¬ (most : Int) ≤ (n : Int) := by omega
      obtain ⟨x0, x1, x2, x3⟩ := zero_two HR5.out.box
      have hhome := rhome_any w5 g2 L (by rw [HM.out]; exact h0) (by rw [HM.out]; exact h1) (most : Int) s HS.out
      rw [HM.out] at hhome
      go_wp2_with fail
      refine (hhome).mono ?_
      rintro e w6 ⟨rfl, hB⟩
      have HR6 := Lib.hid (HR5.out.next hB)
      have HSET := Lib.hid (setP_new HG.out hmem hfull v)
      obtain ⟨_, hj, hju, hpath⟩ := HG.out.miss hmem
      obtain ⟨j, hje⟩ : ∃ j, (findP L s).1 = j := ⟨_, rfl⟩
      rw [hje] at hj hju hpath HSET
      have hjm : j < m := by rw [← HM.out]; exact hj
      have HJU := Lib.hid hju
      have HPATH := Lib.hid hpath
      have HHM := Lib.hid (show hm L s < m from by rw [← HM.out]; exact hm_lt (by rw [HM.out]; exact h0) s)
      have hne0 : (m : Int) ≠ 0 := by omega
      clear hB HR5 hhome hj hju hpath hje x0 x1 x2 x3 hmem hfull hle
      obtain ⟨x0, x1, x2, x3⟩ := zero_two HR6.out.box
      go_wp2_with fail
      go_loopw [8] (fun v wr => ∃ (d i : Nat), i < m ∧ v = .int .i64 i ∧ Hid (i = (hm L s + d) % m ∧ d ≤ dst m (hm L s) j) ∧ wr = w6) (fun v _ => dst m (intOf v).toNat j)
      case atStart => exact ⟨0, hm L s, HHM.out, rfl, Lib.hid ⟨by rw [Nat.add_zero, Nat.mod_eq_of_lt HHM.out], Nat.zero_le _⟩, rfl⟩
      case round =>
        obtain ⟨d, i, hi, rfl, hd, rfl⟩ := hrel
        have HIX := Lib.hid (ix_get (L := L) (q := i) (by rw [HM.out]; exact hi))
        have hi0 : (0 : Int) ≤ (i : Int) := by omega
        have hi1 : (i : Int) < (m : Int) := by omega
        obtain ⟨a0, a1, a2⟩ := HR6.out.ref.at HIX.out
        have e0 := HR6.out.ref.free (i * 3)
        have e1 := HR6.out.ref.free (i * 3 + 1)
        have e2 := HR6.out.ref.free (i * 3 + 2)
        by_cases hij : i = j
        · subst hij
          rw [HJU.out] at a0
          go_wp2_with fail
          have hr := HR6.out.ref.put3 HIX.out ⟨true, s, hm L s, v⟩
          obtain ⟨w7, hw7⟩ : ∃ w7, w7 = (((wr.setCell ⟨g2, i * 3, none⟩ (.bool true)).setCell ⟨g2, i * 3 + 1, none⟩ (.string s)).setCell ⟨g2, i * 3 + 2, none⟩ (.int .i64 v)) := ⟨_, rfl⟩
          have hw : RS w w7 w.heap.size g2 (L.set i ⟨true, s, hm L s, v⟩) m most := by rw [hw7]; exact HR6.out.write3 HG2.out _ _ _ _ _ _ hr
          rw [← hw7]
          have HW := Lib.hid hw
          clear hw7 hw hr x0 x1 x2 x3 a0 a1 a2 e0 e1 e2 HR6
          obtain ⟨d0, d1, d2, d3⟩ := zero_two (HW.out.box)
          obtain ⟨f0, f1, f2, f3⟩ := zero_two (HW.out.out)
          have hne : w.heap.size + 1 ≠ w.heap.size := by omega
          have HFIN := Lib.hid HW.out.fin
          go_region_held3 (fun w' => w'.cell? ⟨w.heap.size, 0, none⟩ = some (.slice (some ⟨g2, 0, none⟩) m m) ∧ w'.cell? ⟨w.heap.size, 1, none⟩ = some (.int .i64 most))
            ((go_split_ands; (try dsimp only); (refine ⟨?_, ?_⟩ <;> first | (with_reducible assumption) | (with_reducible exact drew_keep (by assumption)) | (with_reducible exact drew_keep (set2_far hne (by assumption))))))
            (first | fail)
          go_wp2
          refine bodyPost_ret (results_tmp_cell_row rfl _ _ (w.heap.size + 1) 43 _ (0, 0) _ rfl HFIN.out.1 Try.underlying43 rfl info43) rfl ?_
          exact ⟨g2, by rw [HSET.out]; simp only [List.length_set]; rw [HM.out]; rfl, by rw [HSET.out]; exact HFIN.out.2.1, HG2.out, HFIN.out.2.2⟩
        · have hd2 : d < dst m (hm L s) j := Nat.lt_of_le_of_ne hd.out.2 (fun e => hij (by rw [hd.out.1, e]; exact dst_at HHM.out hjm))
          have hu : (ix L i).used = true := by
            refine HPATH.out i (by rw [HM.out]; exact hi) ?_
            rw [HM.out, hd.out.1, dst_of HHM.out (by have := dst_lt (m := m) (h := hm L s) (i := j) h0; omega)]
            exact hd2
          rw [hu] at a0
          have hwn := wrap_next hi h1
          have HNX := Lib.hid (dst_next hi hjm hij)
          have HD2 := Lib.hid hd2
          clear hij hd2 hu
          go_wp2_with fail
          go_roundw
          case rel =>
            refine ⟨d + 1, (i + 1) % m, Nat.mod_lt _ (by omega), by go_num, Lib.hid ⟨?_, HD2.out⟩, trivial⟩
            rw [hd.out.1]
            exact (next_mod _ _ _).symm
          case measure => exact meas_drop rfl (by go_num) HNX.out
end Go.Proofs.Ytakhofmnldlppaa
