/- The walk of ViewAnyOrder. Conditions: the rows lie as Go's slices do. -/
import Derived.Test.YthpfknigommheaaVk
import Derived.Test.YthpfknigommheaaVo
namespace Go.Proofs.Ythpfknigommheaa
open Go.RowKit Go.ChangeShapes Go.WideShapes Go.ChangeAt Go.Deep PViewTells Go.Proofs.YthpfknigommheaaW.PrintWords

set_option maxRecDepth 100000 in
set_option maxHeartbeats 4000000 in
theorem viewAnyOrder_some (A : Option Addr) (c : Nat) (xs : List S33) (self : Int) (A2 : Option Addr) (c2 : Nat) (l : List S36) (tn ag : Nat) (w : World) (hx : MemA w A c xs) (hl : NewsA w A2 c2 l) (h1 : xs.length ≤ 9223372036854775807) (h2 : l.length ≤ 9223372036854775807)
    (ho : ∀ x ∈ xs, ok33 x) (hn : ∀ x ∈ l, ok36 x) (ht : tn ≤ 255) (ha : ag ≤ 255) :
    Calls Try.prog 5 #[.slice A xs.length c, .int .u8 self, .slice A2 l.length c2, .int .u8 tn, .int .u8 ag] w fun e w' => TruePost w e w' := by
  have HX := Lib.hid hx
  have HL := Lib.hid hl
  have HO := Lib.hid ho
  have HN := Lib.hid hn
  have hgr := Lib.hid (great_any A c xs A2 c2 l w hx hl h1 h2)
  clear hx hl ho hn h1 h2
  go_enter Try.func5, Try.ntmps5
  go_wp2_with fail
  refine (hgr.out).mono ?_
  rintro e w1 ⟨rfl, hb1⟩
  have HB1 := Lib.hid hb1
  clear hb1 hgr
  rcases great_dec xs.length l.length with hd | ⟨hd, hx64, hl300⟩
  · rw [hd]
    clear hd
    go_wp2_with fail
    refine (fixed_any w1).mono ?_
    rintro e w2 ⟨rfl, hb2⟩
    have HB2 := Lib.hid (HB1.out.trans (hb2.mono HB1.out.size))
    clear hb2 HB1
    go_wp2_with fail
    go_ret
    exact ⟨rfl, HB2.out⟩
  · rw [hd]
    clear hd
    by_cases hl0 : l.length = 0
    · rw [hl0]
      go_wp2_with fail
      refine (fixed_any w1).mono ?_
      rintro e w2 ⟨rfl, hb2⟩
      have HB2 := Lib.hid (HB1.out.trans (hb2.mono HB1.out.size))
      clear hb2 HB1
      go_wp2_with fail
      go_ret
      exact ⟨rfl, HB2.out⟩
    · obtain ⟨y0, hy0⟩ : ∃ y, l[0]? = some y := ⟨_, List.getElem?_eq_getElem (by omega)⟩
      obtain ⟨g2, o2, e2, _⟩ := HL.out.row 0 y0 hy0
      subst e2
      have hle : ((l.length : Int) == 0) = false := beq_eq_false_iff_ne.2 (by omega)
      obtain ⟨n, hn, hnl⟩ : ∃ n : Nat, (tn : Int) % (l.length : Int) = (n : Int) ∧ n < l.length := ⟨tn % l.length, by simp, Nat.mod_lt _ (by omega)⟩
      obtain ⟨k, hk, hkl⟩ : ∃ n : Nat, (ag : Int) % (l.length : Int) = (n : Int) ∧ n < l.length := ⟨ag % l.length, by simp, Nat.mod_lt _ (by omega)⟩
      have hll : 0 < l.length := by omega
      clear hy0
      have hcap : l.length ≤ c2 := HL.out.cap
      have hcn : ¬ c2 = n := by omega
      have hnle : (n : Int) ≤ (l.length : Int) := by omega
      have hkle : (k : Int) ≤ (l.length : Int) := by omega
      have hkc : (k : Int) ≤ (c2 : Int) := by omega
      obtain ⟨i0, hi0, hzz⟩ := Option.map_eq_some_iff.1 info36
      simp only [Prod.mk.injEq] at hzz
      obtain ⟨hz0, hz1, hz2⟩ := hzz
      have hown0 : (w1.alloc (.cells #[] 36)).ownsRow w1.heap.size 36 3 (.slice (some ⟨w1.heap.size, 0, none⟩) 0 0) 0 (newsC []) := World.ownsRow_lit w1 #[] 0 (Nat.le_refl _) (Nat.zero_le _) rfl
      have hd1 : (l.drop n).length = l.length - n := List.length_drop
      have HD1 := Lib.hid hd1
      clear hd1
      go_wp2_with (first
        | (at_builtin; refine wpList_append_own _ rfl _ _ 23 rfl w1.heap.size 36 i0 (.agg #[.int .u8 0, .int .u8 0, .int .u32 0]) 3 12 Try.underlying23 hi0 hz0 hz1 hz2 rfl (by decide) _ _ _ rfl hown0 ⟨g2, o2 + n * 3, none⟩ (l.length - n) (c2 - n) (newsC (l.drop n)) rfl ?d1 ?d2 (newsC_all _) ?d3 ?d4 ?d5 ?_)
        | fail)
      case d1 => rw [← HD1.out]; exact flat_len len36 _
      case d2 =>
        intro j u hj
        rw [add_at]
        exact (((HL.out.below HB1.out).below ((Below.refl _ _).alloc (Nat.le_refl _) _)).row.drop n).cells j u hj
      case d3 => unfold maxLen; omega
      case d4 => omega
      case d5 => simp
      intro v1 w3 hown1 hg1 _
      have hb3 : Below w.heap.size w w3 := (HB1.out.alloc HB1.out.size _).grown hg1 (by rw [size_alloc]; exact Nat.le_succ_of_le HB1.out.size) (fun q hq => Nat.le_trans HB1.out.size (World.ownsRow.lt hown0 q hq).1)
      have hs3 : w1.heap.size ≤ w3.heap.size := Nat.le_trans (by rw [size_alloc]; exact Nat.le_succ _) hg1.size
      have HB3 := Lib.hid hb3
      have HS3 := Lib.hid hs3
      have HO1 := Lib.hid hown1
      clear hown0 hown1 hb3 hs3 hg1
      go_wp2_with (first
        | (at_builtin; refine wpList_append_own _ rfl _ _ 23 rfl w1.heap.size 36 i0 (.agg #[.int .u8 0, .int .u8 0, .int .u32 0]) 3 12 Try.underlying23 hi0 hz0 hz1 hz2 rfl (by decide) _ _ _ rfl HO1.out ⟨g2, o2, none⟩ l.length c2 (newsC l) rfl (flat_len len36 l) ?e2 (newsC_all _) ?e3 ?e4 ?e5 ?_)
        | fail)
      case e2 =>
        intro j u hj
        rw [add_at]
        exact (HL.out.below HB3.out).row.cells j u hj
      case e3 => unfold maxLen; omega
      case e4 => omega
      case e5 => exact HS3.out
      intro v2 w4 hown2 hg2 _
      have hb4 : Below w.heap.size w w4 := HB3.out.grown hg2 HB3.out.size (fun q hq => Nat.le_trans HB1.out.size (World.ownsRow.lt HO1.out q hq).1)
      have HB4 := Lib.hid hb4
      have HS4 := Lib.hid (Nat.le_trans HS3.out hg2.size)
      have HO2 := Lib.hid hown2
      have htk : (l.take k).length = k := by rw [List.length_take]; omega
      have HTK := Lib.hid htk
      clear hown2 hb4 hg2 HO1 HB3 HS3 htk
      go_wp2_with (first
        | (at_builtin; refine wpList_append_own _ rfl _ _ 23 rfl w1.heap.size 36 i0 (.agg #[.int .u8 0, .int .u8 0, .int .u32 0]) 3 12 Try.underlying23 hi0 hz0 hz1 hz2 rfl (by decide) _ _ _ rfl HO2.out ⟨g2, o2, none⟩ k c2 (newsC (l.take k)) rfl ?f1 ?f2 (newsC_all _) ?f3 ?f4 ?f5 ?_)
        | fail)
      case f1 => rw [show k * 3 = (l.take k).length * 3 by rw [HTK.out]]; exact flat_len len36 _
      case f2 =>
        intro j u hj
        rw [add_at]
        exact ((HL.out.below HB4.out).row.take k).cells j u hj
      case f3 => unfold maxLen; omega
      case f4 => omega
      case f5 => exact HS4.out
      intro v3 w5 hown3 hg3 _
      have hb5 : Below w.heap.size w w5 := HB4.out.grown hg3 HB4.out.size (fun q hq => Nat.le_trans HB1.out.size (World.ownsRow.lt HO2.out q hq).1)
      obtain ⟨T, hT⟩ : ∃ T, T = l.drop n ++ l ++ l.take k := ⟨_, rfl⟩
      have hTl : T.length = l.length - n + l.length + k := by rw [hT, List.length_append, List.length_append, HD1.out, HTK.out]
      have hTo : ∀ x ∈ T, ok36 x := fun x hxT => HN.out x ((turned_mem l n k x).2 (by rw [← hT]; exact hxT))
      have hown4 : NewsO w5 w1.heap.size v3 T := by
        unfold NewsO
        rw [hTl, hT, newsC_app, newsC_app]
        have h := hown3
        simp only [newsC, List.flatMap_nil, List.nil_append, List.append_assoc] at h ⊢
        exact h
      obtain ⟨At, ct, rfl, hta⟩ := hown4.arg
      have hord := fun (i : Nat) (hi : (i : Int) ≠ self) (m : S33) (hm : xs[i]? = some m) => any_order self xs l T (fun x hx => (HN.out x hx).1.1) (fun x => by rw [hT]; exact turned_mem l n k x) i hi m hm
      have hia := heardFrom_inv self l HN.out (xs, []) HO.out (fun y hy => by simp at hy)
      have hib := heardFrom_inv self T hTo (xs, []) HO.out (fun y hy => by simp at hy)
      have hha := hear_any A c xs self (some ⟨g2, o2, none⟩) c2 l w5 (HX.out.below hb5) (by omega) (HL.out.below hb5) (by omega) HO.out HN.out
      obtain ⟨P, chP, hP⟩ : ∃ P chP, heard self xs l = (P, chP) := ⟨_, _, rfl⟩
      obtain ⟨R, chR, hR⟩ : ∃ R chR, heard self xs T = (R, chR) := ⟨_, _, rfl⟩
      have hP' : heardFrom self (xs, []) l = (P, chP) := hP
      have hR' : heardFrom self (xs, []) T = (R, chR) := hR
      rw [hP'] at hia
      rw [hR'] at hib
      rw [hP, hR] at hord
      rw [hP] at hha
      have hPl : P.length = xs.length := hia.1
      have hRl : R.length = xs.length := hib.1
      have HORD := Lib.hid hord
      have HB5 := Lib.hid hb5
      have HTA := Lib.hid hta
      have HHA := Lib.hid hha
      have HPL := Lib.hid hPl
      have HRL := Lib.hid hRl
      have HR := Lib.hid hR
      have HTL := Lib.hid hTl
      have HTO := Lib.hid hTo
      clear hown3 hown4 hg3 HO2 HB4 HS4 hT hTl hTo hb5 hta hord hia hib hha hP hR hP' hR' hPl hRl hn hk
      go_wp2_with fail
      refine (HHA.out).mono ?_
      rintro e w6 ⟨va, vc, rfl, hva, hvc, hb6⟩
      obtain ⟨Aa, ca, rfl, haa⟩ := hva.arg
      obtain ⟨Ac, cc, rfl, _⟩ := hvc.arg
      rw [HPL.out]
      have HAA := Lib.hid haa
      have HB6 := Lib.hid (HB5.out.trans (hb6.mono HB5.out.size))
      have hhb := hear_any A c xs self At ct T w6 (HX.out.below HB6.out) (by omega) (HTA.out.below hb6) (by rw [HTL.out]; omega) HO.out HTO.out
      rw [HR.out] at hhb
      have HHB := Lib.hid hhb
      clear hva hvc haa hb6 hhb HHA HB5 HTA
      go_wp2_with fail
      refine (HHB.out).mono ?_
      rintro e w7 ⟨vb, vd, rfl, hvb, hvd, hb7⟩
      obtain ⟨Ab, cb, rfl, hba⟩ := hvb.arg
      obtain ⟨Ad, cd, rfl, _⟩ := hvd.arg
      rw [HRL.out]
      have HBB := Lib.hid hba
      have HAA7 := Lib.hid (HAA.out.below hb7)
      have HB7 := Lib.hid (HB6.out.trans (hb7.mono HB6.out.size))
      clear hvb hvd hba hb7 HHB HB6 HAA
      go_wp2_with fail
      go_loopw [69] (fun i wr => ∃ q : Nat, q ≤ xs.length ∧ i = .int .i64 q ∧ Below w7.heap.size w7 wr) (fun i _ => xs.length - (intOf i).toNat)
      case atStart => exact ⟨0, Nat.zero_le _, rfl, Below.refl _ _⟩
      case round =>
        obtain ⟨q, hq, rfl, hb⟩ := hrel
        by_cases hlt : q < xs.length
        · have HB := Lib.hid hb
          have hqz : (0 : Int) ≤ (q : Int) := by omega
          have hqn : (q : Int) < (xs.length : Int) := by omega
          have hw8 : IntKind.u8.wrap (q : Int) = (q : Int) := by rw [IntKind.wrap_u8]; omega
          by_cases hs1 : (q : Int) = self
          · have e1 : ((q : Int) == self) = true := by rw [beq_iff_eq]; exact hs1
            have e2 : ((q : Int) != self) = false := by rw [bne, e1]; rfl
            clear hb hs1
            go_wp2_with fail
            go_quiet (fail)
            go_wp2_with fail
            go_roundw
            case rel => exact ⟨q + 1, by omega, by go_num, below_drewN HB.out nq⟩
            case measure => simp [intOf]; omega
          · have e1 : ((q : Int) == self) = false := beq_eq_false_iff_ne.2 hs1
            have e2 : ((q : Int) != self) = true := by rw [bne, e1]; rfl
            obtain ⟨m, hm⟩ : ∃ m, xs[q]? = some m := ⟨_, List.getElem?_eq_getElem hlt⟩
            obtain ⟨z, hz1, hz2⟩ := HORD.out q hs1 m hm
            obtain ⟨ga, oa, ea, a0, a1⟩ := (HAA7.out.below hb).row q z hz1
            obtain ⟨gb, ob, eb, b0, b1⟩ := (HBB.out.below hb).row q z hz2
            subst ea
            subst eb
            have heq := eqA33
            clear hm hz1 hz2 hb hs1
            go_wp2_with fail
            go_quiet (fail)
            go_wp2_with fail
            go_roundw
            case rel => exact ⟨q + 1, by omega, by go_num, below_drewN HB.out nq⟩
            case measure => simp [intOf]; omega
        · have hqn : ¬ (q : Int) < (xs.length : Int) := by omega
          have HB8 := Lib.hid (HB7.out.trans (hb.mono HB7.out.size))
          clear hb hlt hq
          go_wp2_with fail
          refine (fixed_any _).mono ?_
          rintro e w9 ⟨rfl, hb9⟩
          have HB9 := Lib.hid (HB8.out.trans (hb9.mono HB8.out.size))
          clear hb9
          go_wp2_with fail
          go_ret
          exact ⟨rfl, HB9.out⟩
theorem viewAnyOrder_walk (a : Option Addr) (len cap : Nat) (L : List S33) (self : Int) (a2 : Option Addr) (len2 cap2 : Nat) (L2 : List S36) (tn ag : Int) (w : World) (hrow : RowOf cells33 2 ok33 w a len cap L) (hr : len * 8 ≤ 140737488351232) (_hs : (Lit.int .u8 self).wf = true) (hrow2 : RowOf cells36 3 ok36 w a2 len2 cap2 L2) (hr2 : len2 * 12 ≤ 140737488351232) (ht : (Lit.int .u8 tn).wf = true) (ha : (Lit.int .u8 ag).wf = true) :
    Calls Try.prog 5 #[.slice a len cap, .int .u8 self, .slice a2 len2 cap2, .int .u8 tn, .int .u8 ag] w fun e w' => TruePost w e w' := by
  have hm := memA_of_row hrow
  have hn := newsA_of_row hrow2
  have hs := hrow.size
  have hs2 := hrow2.size
  have bt := bounds_u8 ht
  have ba := bounds_u8 ha
  obtain ⟨tn, rfl⟩ := Int.eq_ofNat_of_zero_le bt.1
  obtain ⟨ag, rfl⟩ := Int.eq_ofNat_of_zero_le ba.1
  subst hs hs2
  exact viewAnyOrder_some a cap L self a2 cap2 L2 tn ag w hm hn (by omega) (by omega) hrow.good hrow2.good (by omega) (by omega)
end Go.Proofs.Ythpfknigommheaa
