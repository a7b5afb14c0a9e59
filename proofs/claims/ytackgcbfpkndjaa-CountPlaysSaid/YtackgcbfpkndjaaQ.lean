/- The walk of CountPlays: any row of calls of counts with any names is answered as the reference says. Conditions: both rows lie as Go's slices do. -/
import Derived.Test.YtackgcbfpkndjaaO
namespace Go.Proofs.Ytackgcbfpkndjaa
open Go.RowKit Go.Maps Go.WideMaps

theorem str_shape {H : Type} {enc : TypeId × Value → H} {P : Program} {w : World} {base : Nat} {spare : Nat → Bool} {held : Bool} {e : TypeId} (he : P.underlying e = some .string) : ∀ n cs x, DataW.trod enc P w base spare held n e cs = some x → ∃ y : ByteArray, cs = [.string y] ∧ y.size ≤ maxLen := by
  intro n cs x h
  obtain ⟨y, h1, _, h2⟩ := DataW.trod_string he h
  exact ⟨y, h1, h2⟩

/-- The law's state behind some calls: the object and the reference's row have the same counts. -/
structure PlayAt (w wr : World) (b bn bm bv g : Nat) (ns : List ByteArray) (vs : List Int) : Prop where
  obj : CountsAt wr b bn bm bv ns vs
  row : SR wr g ns vs
  lg : g < wr.heap.size
  ne : g ≠ bv
  bel : Below w.heap.size w wr

theorem PlayAt.below {w wr w' : World} {b bn bm bv g : Nat} {ns : List ByteArray} {vs : List Int} (h : PlayAt w wr b bn bm bv g ns vs) (hb : Below wr.heap.size wr w') : PlayAt w w' b bn bm bv g ns vs :=
  ⟨h.obj.below hb, h.row.below hb, Nat.lt_of_lt_of_le h.lg hb.size, h.ne, h.bel.trans (hb.mono h.bel.size)⟩
theorem PlayAt.drewN {w wr : World} {b bn bm bv g : Nat} {ns : List ByteArray} {vs : List Int} (h : PlayAt w wr b bn bm bv g ns vs) (n : Nat) : PlayAt w (wr.drewN n) b bn bm bv g ns vs :=
  ⟨counts_heap h.obj rfl, h.row, h.lg, h.ne, below_drewN' h.bel n⟩
theorem get_miss' {b bn bm bv : Nat} {ns : List ByteArray} {vs : List Int} {w : World} (h : CountsAt w b bn bm bv ns vs) (s : ByteArray) (hs : s.size ≤ maxLen) (hi : s ∉ ns) :
    Calls Try.prog 10 #[.pointer (some ⟨b, 0, none⟩), .string s] w fun e w' => e = .returned (.int .u64 0) ∧ w' = w := (get_miss h s hs hi).mono fun _ _ h => ⟨h.1, h.2.symm⟩
theorem sr_cells {w : World} {g : Nat} {ns : List ByteArray} {vs : List Int} (hl : vs.length = ns.length) (h : ∀ j, j < ns.length * 2 → w.cell? ⟨g, j, none⟩ = (statCells ns vs)[j]?) : SR w g ns vs := fun j u hj => by
  have := (List.getElem?_eq_some_iff.1 hj).1
  rw [statCells_length ns vs hl] at this
  rw [h j this, hj]
theorem same_counts (g1 g2 c1 c2 : Nat) (ns : List ByteArray) (vs : List Int) (w : World) (hl : vs.length = ns.length) (hmax : ns.length ≤ 4096) (h1 : SR w g1 ns vs) (h2 : SR w g2 ns vs) :
    Calls Try.prog 12 #[.slice (some ⟨g1, 0, none⟩) ns.length c1, .slice (some ⟨g2, 0, none⟩) ns.length c2] w fun e w' => TruePost w e w' :=
  same_true g1 g2 ns.length c1 c2 (ns.zip vs) w (by rw [List.length_zip]; omega) hmax h1.row h2.row

set_option maxRecDepth 100000 in
set_option maxHeartbeats 4000000 in
theorem plays_walk (a : Option Addr) (len cap : Nat) (ns : List ByteArray) (a2 : Option Addr) (len2 cap2 : Nat) (ops : List OpV) (w : World) (hns : RowOf (fun s : ByteArray => [.string s]) 1 (fun s => s.size ≤ maxLen) w a len cap ns) (_h1 : len * 16 ≤ 140737488351232)
    (hops : RowOf cells37 3 ok37 w a2 len2 cap2 ops) (_h2 : len2 * 32 ≤ 140737488351232) :
    Calls Try.prog 5 #[.slice a len cap, .slice a2 len2 cap2] w fun e w' => TruePost w e w' := by
  have hlen := hns.size
  have HN := Lib.hid hns
  have HR := Lib.hid hops
  clear hns hops
  subst hlen
  by_cases hbig : 200 < ns.length
  · go_enter Try.func5, Try.ntmps5
    go_wp2_with (first | (go_at_call 8; refine (fixed_any _).mono ?_; rintro e w3 ⟨rfl, hb⟩; have HB := Lib.hid hb; clear hb))
    go_ret
    exact ⟨rfl, HB.out⟩
  · by_cases hz : ns = []
    · subst hz
      go_enter Try.func5, Try.ntmps5
      go_wp2_with fail
      refine (new_none a cap w).mono ?_
      rintro e w1 ⟨rfl, hb1⟩
      go_wp2_with fail
      refine (ref_new_none a cap w1).mono ?_
      rintro e w2 ⟨v, rfl, hb2⟩
      go_wp2_with fail
      refine (fixed_any w2).mono ?_
      rintro e w3 ⟨rfl, hb3⟩
      have h2 := hb1.trans (hb2.mono hb1.size)
      have HB := Lib.hid (h2.trans (hb3.mono h2.size))
      clear hb1 hb2 hb3 h2
      go_wp2_with fail
      go_ret
      exact ⟨rfl, HB.out⟩
    · have hpos : 1 ≤ ns.length := by
        have := List.length_pos_iff.2 hz
        omega
      obtain ⟨nb, no, rfl, -⟩ := HN.out.cell 0 (ns[0]'(by omega)) (List.getElem?_eq_getElem (by omega))
      have hcells : ∀ j s, ns[j]? = some s → w.cell? ⟨nb, no + j, none⟩ = some (.string s) := by
        intro j s hj
        obtain ⟨b', o', e, hc⟩ := HN.out.cell j s hj
        injection e with e
        injection e with e1 e2
        subst e1 e2
        have := hc 0 _ rfl
        rwa [show no + (j * 1 + 0) = no + j by omega] at this
      have hfit : ∀ s ∈ ns, s.size ≤ maxLen := fun s hs => HN.out.good s hs
      have HCELLS := Lib.hid hcells
      clear hcells hz
      have hcA : ∀ wx, Below w.heap.size w wx → ∀ j s, ns[j]? = some s → wx.cell? ((⟨nb, no, none⟩ : Addr).add j) = some (.string s) := by
        intro wx hb j s hj
        rw [add_off]
        exact (hb.cell (World.block_lt_of_cell? w _ (HCELLS.out j s hj))).trans (HCELLS.out j s hj)
      have hcB : ∀ wx, Below w.heap.size w wx → ∀ j s, ns[j]? = some s → wx.cell? ⟨nb, no + j, none⟩ = some (.string s) := by
        intro wx hb j s hj
        exact (hb.cell (World.block_lt_of_cell? w _ (HCELLS.out j s hj))).trans (HCELLS.out j s hj)
      have HCA := Lib.hid hcA
      have HCB := Lib.hid hcB
      clear hcA hcB HCELLS
      by_cases hgood : Good ns
      · have HG := Lib.hid hgood
        have HF := Lib.hid hfit
        clear hgood hfit
        go_enter Try.func5, Try.ntmps5
        go_wp2_with fail
        refine (new_ok ⟨nb, no, none⟩ cap ns w (HCA.out w (Below.refl _ _)) (by omega) hpos HG.out.1 HG.out.2 HF.out).mono ?_
        rintro e w1 ⟨b, bn, bm, bv, rfl, hC, -, -, -, l, hb1⟩
        go_wp2_with fail
        refine (ref_new_ok nb no cap ns w1 (HCB.out w1 hb1) (by omega) hpos HG.out).mono ?_
        rintro e w2 ⟨g, cg, rfl, hsr, hg1, hg0, hb2⟩
        have hC2 := hC.below hb2
        have hgne : g ≠ bv := by have := hC.lbv; omega
        have h2 := hb1.trans (hb2.mono hb1.size)
        clear hC hb1 hb2
        go_wp2_with fail
        refine (fixed_any w2).mono ?_
        rintro e w3 ⟨rfl, hb3⟩
        have HP := Lib.hid (PlayAt.mk (hC2.below hb3) (hsr.below hb3) (Nat.lt_of_lt_of_le hg1 hb3.size) hgne (h2.trans (hb3.mono h2.size)) : PlayAt w w3 b bn bm bv g ns (List.replicate ns.length 0))
        clear hC2 hsr h2 hb3 hgne hg1 hg0
        go_wp2_with fail
        go_loopw [7, 46] (fun m i wr => ∃ (k g c : Nat) (vs : List Int), k ≤ len2 ∧ i = .int .i64 k ∧ m = .slice (some ⟨g, 0, none⟩) ns.length c ∧ PlayAt w wr b bn bm bv g ns vs)
          (fun _ i _ => len2 - (intOf i).toNat)
        case atStart => exact ⟨0, g, cg, _, Nat.zero_le _, rfl, rfl, HP.out⟩
        case round =>
          clear HP
          obtain ⟨k, g, c, vs, hk, rfl, rfl, hP⟩ := hrel
          have hnn : ns.length ≤ 200 := by omega
          by_cases hlt : k < len2
          · obtain ⟨o, ho⟩ : ∃ o, ops[k]? = some o := ⟨_, List.getElem?_eq_getElem (by rw [HR.out.size]; exact hlt)⟩
            obtain ⟨bo, oo, rfl, hcell⟩ := HR.out.cell k o ho
            have hok := HR.out.good o (List.mem_of_getElem? ho)
            have g0 := hcell 0 _ rfl
            have g1 := hcell 1 _ rfl
            have g2 := hcell 2 _ rfl
            rw [show oo + (k * 3 + 0) = oo + k * 3 by omega] at g0
            rw [show oo + (k * 3 + 1) = oo + k * 3 + 1 by omega] at g1
            rw [show oo + (k * 3 + 2) = oo + k * 3 + 2 by omega] at g2
            have c0 := (hP.bel.cell (World.block_lt_of_cell? w _ g0)).trans g0
            have c1 := (hP.bel.cell (World.block_lt_of_cell? w _ g1)).trans g1
            have c2 := (hP.bel.cell (World.block_lt_of_cell? w _ g2)).trans g2
            clear g0 g1 g2 hcell ho
            obtain ⟨r, s, n⟩ := o
            obtain ⟨hs, hn0, hn1⟩ := hok
            dsimp only at hs hn0 hn1
            have hbx : Below wr.heap.size wr (wr.alloc (.cells (cells37 ⟨r, s, n⟩).toArray 37)) := (Below.refl _ _).alloc (Nat.le_refl _) _
            have hP1 := hP.below hbx
            have x0 := cell_new (W := wr) rfl (cells37 ⟨r, s, n⟩).toArray 37 0
            have x1 := cell_new (W := wr) rfl (cells37 ⟨r, s, n⟩).toArray 37 1
            have x2 := cell_new (W := wr) rfl (cells37 ⟨r, s, n⟩).toArray 37 2
            have hbvw : bv < wr.heap.size := hP.obj.lbv
            have hgw : g < wr.heap.size := hP.lg
            have hxs : wr.heap.size < (wr.alloc (.cells (cells37 ⟨r, s, n⟩).toArray 37)).heap.size := by simp
            by_cases h200 : k ≤ 200
            · cases r with
              | true =>
                have HX1 := Lib.hid x1
                have HP1 := Lib.hid hP1
                clear x0 x1 x2 hP1 hP hbx
                go_wp2_with fail
                refine (reset_row HP1.out.obj (by omega)).mono ?_
                rintro e w4 ⟨g4, cg4, rfl, hg40, hg41, hr4, hC4, hgr4⟩
                have hl1 := HP1.out.obj.len
                have y1 : w4.cell? ⟨wr.heap.size, 1, none⟩ = some (.string s) := hgr4.cell (HX1.out) (fun e => by injection e with e; have e : wr.heap.size = bv := e; omega)
                have hb4 := grown_below HP1.out.bel hgr4 HP1.out.bel.size l
                have hm4 := HP1.out.row.other hgr4 HP1.out.ne
                have h4s := sr_cells hl1 hr4
                have HC4 := Lib.hid hC4
                have HB4 := Lib.hid hb4
                clear hr4 hC4 hgr4 hb4
                go_wp2_with fail
                refine (same_counts g4 g cg4 c ns vs w4 hl1 (by omega) h4s hm4).mono ?_
                rintro e w5 ⟨rfl, hb5⟩
                have hbw5 := HB4.out.trans (hb5.mono HB4.out.size)
                have y2 := (hb5.cell (World.block_lt_of_cell? w4 _ y1)).trans y1
                have hC5 := HC4.out.below hb5
                clear hm4 h4s y1 hb5
                go_wp2_with fail
                refine (ref_new_ok nb no cap ns w5 (HCB.out w5 hbw5) (by omega) hpos HG.out).mono ?_
                rintro e w6 ⟨g6, cg6, rfl, hsr6, hg61, hg60, hb6⟩
                have y3 := (hb6.cell (World.block_lt_of_cell? w5 _ y2)).trans y2
                have hbv5 := hC5.lbv
                have hP6 : PlayAt w w6 b bn bm bv g6 ns (List.replicate ns.length 0) := ⟨hC5.below hb6, hsr6, hg61, by omega, hbw5.trans (hb6.mono hbw5.size)⟩
                clear y2 hC5 hbw5 hb6 hsr6 hl1
                have hlenv := hP6.obj.len
                have HPX := Lib.hid hP6
                clear hP6
                by_cases hin : s ∈ ns
                · obtain ⟨i, hi⟩ := List.mem_iff_getElem?.1 hin
                  obtain ⟨y, hy⟩ : ∃ y, (List.replicate ns.length (0 : Int))[i]? = some y := ⟨_, List.getElem?_eq_getElem (l := List.replicate ns.length (0 : Int)) (i := i) (by rw [hlenv]; exact (List.getElem?_eq_some_iff.1 hi).1)⟩
                  have HG0 := Lib.hid (fun nq => get_hit' (HPX.out.drewN nq).obj s i y hi hy)
                  have HG1 := Lib.hid (fun nq c => ref_get_hit (c := c) (HPX.out.drewN nq).row hlenv HPX.out.obj.nod (by omega) s i y hi hy)
                  clear hi hy hin hlenv
                  go_wp2_with fail
                  go_quiet ((first | (go_at_call 10; exact Calls.quiet_of_same (HG0.out _)) | (go_at_call 16; exact Calls.quiet_of_same (HG1.out _ _))))
                  go_wp2
                  go_roundw
                  case rel => exact ⟨k + 1, g6, _, List.replicate ns.length (0 : Int), by omega, by go_num, rfl, HPX.out.drewN _⟩
                  case measure => simp [intOf]; omega
                · have HG0 := Lib.hid (fun nq => get_miss' (HPX.out.drewN nq).obj s hs hin)
                  have HG1 := Lib.hid (fun nq c => ref_get_miss (c := c) (HPX.out.drewN nq).row hlenv (by omega) s hin)
                  clear hin hlenv
                  go_wp2_with fail
                  go_quiet ((first | (go_at_call 10; exact Calls.quiet_of_same (HG0.out _)) | (go_at_call 16; exact Calls.quiet_of_same (HG1.out _ _))))
                  go_wp2
                  go_roundw
                  case rel => exact ⟨k + 1, g6, _, List.replicate ns.length (0 : Int), by omega, by go_num, rfl, HPX.out.drewN _⟩
                  case measure => simp [intOf]; omega
              | false =>
                have HX1 := Lib.hid x1
                have HX2 := Lib.hid x2
                have HP1 := Lib.hid hP1
                clear x0 x1 x2 hP1 hP hbx
                by_cases hin : s ∈ ns
                · skip
                  obtain ⟨i, hi⟩ := List.mem_iff_getElem?.1 hin
                  obtain ⟨y, hy⟩ : ∃ y, vs[i]? = some y := ⟨_, List.getElem?_eq_getElem (l := vs) (i := i) (by rw [HP1.out.obj.len]; exact (List.getElem?_eq_some_iff.1 hi).1)⟩
                  obtain ⟨yw0, yw1⟩ := HP1.out.obj.wf y (List.mem_of_getElem? hy)
                  have hlv := HP1.out.obj.len
                  clear hin
                  go_wp2_with fail
                  refine (ref_add_hit HP1.out.row hlv HP1.out.obj.nod (by omega) s i y n hi hy yw0 yw1 hn0 hn1).mono ?_
                  rintro e w4 ⟨g4, rfl, hsr4, hg41, hg40, hb4⟩
                  have hC4 := HP1.out.obj.below hb4
                  have hbw4 := HP1.out.bel.trans (hb4.mono HP1.out.bel.size)
                  have y1 : w4.cell? ⟨wr.heap.size, 1, none⟩ = some (.string s) := (hb4.cell (World.block_lt_of_cell? _ _ HX1.out)).trans HX1.out
                  have y2 : w4.cell? ⟨wr.heap.size, 2, none⟩ = some (.int .u64 n) := (hb4.cell (World.block_lt_of_cell? _ _ HX2.out)).trans HX2.out
                  have hbv4 := HP1.out.obj.lbv
                  have HSR4 := Lib.hid hsr4
                  have HBW4 := Lib.hid hbw4
                  have HI := Lib.hid hi
                  have HY := Lib.hid hy
                  clear hb4 hsr4 hbw4 hi hy
                  go_wp2_with fail
                  refine (add_hit hC4 s i y n HI.out HY.out hn0 hn1).mono ?_
                  rintro e w5 ⟨rfl, hw5⟩
                  have hC5 := set_step hC4 hw5 (addTo_range yw0 hn0)
                  have hgr5 : w4.grownBy w5 (some bv) := by rw [← hw5]; exact grown_set _ _ _
                  have z1 := hgr5.cell y1 (fun e => by injection e with e; have e : wr.heap.size = bv := e; omega)
                  have hP5 : PlayAt w w5 b bn bm bv g4 ns (vs.set i (addTo y n)) := ⟨hC5, HSR4.out.other hgr5 (by omega), Nat.lt_of_lt_of_le hg41 hgr5.size, by omega, grown_below HBW4.out hgr5 HBW4.out.size l⟩
                  have hin : s ∈ ns := List.mem_of_getElem? HI.out
                  have hyn : (vs.set i (addTo y n))[i]? = some (addTo y n) := by
                    rw [List.getElem?_set_self (by rw [hlv]; exact (List.getElem?_eq_some_iff.1 HI.out).1)]
                  have hlenv := hP5.obj.len
                  have HPX := Lib.hid hP5
                  have HG0 := Lib.hid (fun nq => get_hit' (HPX.out.drewN nq).obj s i _ HI.out hyn)
                  have HG1 := Lib.hid (fun nq c => ref_get_hit (c := c) (HPX.out.drewN nq).row hlenv HPX.out.obj.nod (by omega) s i _ HI.out hyn)
                  clear hw5 hC5 hC4 hgr5 y1 y2 hP5 hin hyn hlenv
                  go_wp2_with fail
                  go_quiet ((first | (go_at_call 10; exact Calls.quiet_of_same (HG0.out _)) | (go_at_call 16; exact Calls.quiet_of_same (HG1.out _ _))))
                  go_wp2
                  go_roundw
                  case rel => exact ⟨k + 1, g4, _, _, by omega, by go_num, rfl, HPX.out.drewN _⟩
                  case measure => simp [intOf]; omega
                · skip
                  have hlv := HP1.out.obj.len
                  have HIN := Lib.hid hin
                  clear hin
                  go_wp2_with fail
                  refine (ref_add_miss HP1.out.row hlv (by omega) s n HIN.out).mono ?_
                  rintro e w4 ⟨g4, rfl, hsr4, hg41, hg40, hb4⟩
                  have hC4 := HP1.out.obj.below hb4
                  have hbw4 := HP1.out.bel.trans (hb4.mono HP1.out.bel.size)
                  have y1 : w4.cell? ⟨wr.heap.size, 1, none⟩ = some (.string s) := (hb4.cell (World.block_lt_of_cell? _ _ HX1.out)).trans HX1.out
                  have y2 : w4.cell? ⟨wr.heap.size, 2, none⟩ = some (.int .u64 n) := (hb4.cell (World.block_lt_of_cell? _ _ HX2.out)).trans HX2.out
                  have hbv4 := HP1.out.obj.lbv
                  have HSR4 := Lib.hid hsr4
                  have HBW4 := Lib.hid hbw4
                  clear hb4 hsr4 hbw4
                  go_wp2_with fail
                  refine (add_miss hC4 s n hs HIN.out).mono ?_
                  rintro e w5 ⟨rfl, rfl⟩
                  have hP5 : PlayAt w w4 b bn bm bv g4 ns vs := ⟨hC4, HSR4.out, hg41, by omega, HBW4.out⟩
                  have hlenv := hP5.obj.len
                  have HPX := Lib.hid hP5
                  have HG0 := Lib.hid (fun nq => get_miss' (HPX.out.drewN nq).obj s hs HIN.out)
                  have HG1 := Lib.hid (fun nq c => ref_get_miss (c := c) (HPX.out.drewN nq).row hlenv (by omega) s HIN.out)
                  clear hC4 y2 hP5 hlenv
                  go_wp2_with fail
                  go_quiet ((first | (go_at_call 10; exact Calls.quiet_of_same (HG0.out _)) | (go_at_call 16; exact Calls.quiet_of_same (HG1.out _ _))))
                  go_wp2
                  go_roundw
                  case rel => exact ⟨k + 1, g4, _, _, by omega, by go_num, rfl, HPX.out.drewN _⟩
                  case measure => simp [intOf]; omega
            · clear x0 x1 x2 hbx hP
              have HB := Lib.hid hP1.bel
              go_wp2_with fail
              refine (all_row hP1.obj (by omega)).mono ?_
              rintro e w4 ⟨g4, cg4, rfl, hg40, hg41, hr4, hb4⟩
              go_wp2_with fail
              refine (same_counts g4 g cg4 c ns vs w4 hP1.obj.len (by omega) (sr_cells hP1.obj.len hr4) (hP1.row.below hb4)).mono ?_
              rintro e w5 ⟨rfl, hb5⟩
              have h4 := HB.out.trans (hb4.mono HB.out.size)
              have HB5 := Lib.hid (h4.trans (hb5.mono h4.size))
              clear h4 hb4 hb5 hr4 hP1
              go_wp2_with fail
              go_ret
              exact ⟨rfl, HB5.out⟩
          · skip
            have HB := Lib.hid hP.bel
            go_wp2_with fail
            refine (all_row hP.obj (by omega)).mono ?_
            rintro e w4 ⟨g4, cg4, rfl, hg40, hg41, hr4, hb4⟩
            go_wp2_with fail
            refine (same_counts g4 g cg4 c ns vs w4 hP.obj.len (by omega) (sr_cells hP.obj.len hr4) (hP.row.below hb4)).mono ?_
            rintro e w5 ⟨rfl, hb5⟩
            have h4 := HB.out.trans (hb4.mono HB.out.size)
            have HB5 := Lib.hid (h4.trans (hb5.mono h4.size))
            clear h4 hb4 hb5 hr4 hP
            go_wp2_with fail
            go_ret
            exact ⟨rfl, HB5.out⟩
      · obtain ⟨K, z, hK⟩ := bad_at ns hgood
        have HK := Lib.hid hK
        have HF := Lib.hid hfit
        clear hgood hK hfit
        go_enter Try.func5, Try.ntmps5
        go_wp2_with fail
        refine (new_bad ⟨nb, no, none⟩ cap ns w (HCA.out w (Below.refl _ _)) (by omega) K z HK.out HF.out).mono ?_
        rintro e w1 ⟨rfl, hb1⟩
        go_wp2_with fail
        refine (ref_new_bad nb no cap ns w1 (HCB.out w1 hb1) (by omega) K z HK.out).mono ?_
        rintro e w2 ⟨v, rfl, hb2⟩
        go_wp2_with fail
        refine (fixed_any w2).mono ?_
        rintro e w3 ⟨rfl, hb3⟩
        have h2 := hb1.trans (hb2.mono hb1.size)
        have HB := Lib.hid (h2.trans (hb3.mono h2.size))
        clear hb1 hb2 hb3 h2
        go_wp2_with fail
        go_ret
        exact ⟨rfl, HB.out⟩
end Go.Proofs.Ytackgcbfpkndjaa
