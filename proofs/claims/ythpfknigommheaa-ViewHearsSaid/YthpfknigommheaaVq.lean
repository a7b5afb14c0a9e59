/- ViewHears: the reference's Hear of any view, and the walk. Conditions: the rows lie as Go's slices do. -/
import Derived.Test.YthpfknigommheaaVk
import Derived.Test.YthpfknigommheaaVe
import Derived.Deep.Upon
import Derived.Lib.AppendZeros
namespace Go.Proofs.Ythpfknigommheaa
open Go.RowKit PViewTells Go.Proofs.YthpfknigommheaaW.PrintWords

theorem heard_nil (self : Int) (l : List S36) : heardFrom self ([], []) l = ([], []) := by
  unfold heardFrom
  induction l with
  | nil => rfl
  | cons x l ih => rw [List.foldl_cons]; exact ih
set_option maxRecDepth 100000 in
set_option maxHeartbeats 2000000 in
theorem refhear_nil (self : Int) (A2 : Option Addr) (c2 : Nat) (l : List S36) (w : World) (hl : NewsA w A2 c2 l) (h1 : l.length ≤ 1000)
    (hn : ∀ x ∈ l, ok36 x) :
    Calls Try.prog 12 #[.slice none 0 0, .int .u8 self, .slice A2 l.length c2] w fun e w' => HearPost w (heard self [] l).1 (heard self [] l).2 e w' := by
  obtain ⟨i0, hi, hzz⟩ := Option.map_eq_some_iff.1 info33
  simp only [Prod.mk.injEq] at hzz
  obtain ⟨hz0, hz1, hz2⟩ := hzz
  have hown : (w.alloc (.cells #[] 33)).ownsRow w.heap.size 33 2 (.slice (some ⟨w.heap.size, 0, none⟩) 0 0) 0 [] := World.ownsRow_lit w #[] 0 (Nat.le_refl _) (Nat.zero_le _) rfl
  have hb1 : Below w.heap.size w (w.alloc (.cells #[] 33)) := ((Below.refl _ _).alloc (Nat.le_refl _) _)
  have HO1 := Lib.hid hown
  have HB1 := Lib.hid hb1
  have HL := Lib.hid hl
  have HN := Lib.hid hn
  clear hl hn hown hb1
  go_enter Try.func12, Try.ntmps12
  go_wp2_with (first
    | (at_builtin; refine Lib.wpList_append_run _ rfl _ _ 22 22 rfl _ _ rfl rfl _ _ (run_append_nothing _ 22 22 22 33 i0 Try.underlying22 hi (some ⟨w.heap.size, 0, none⟩) 0 0 (Nat.le_refl _) _ (Src.ofNil Try.underlying22 0)) ?_)
    | fail)
  have hcn : ((w.alloc (.cells #[] 33)).alloc (.cells #[] 36)).ownsRow (w.alloc (.cells #[] 33)).heap.size 36 3 (.slice (some ⟨(w.alloc (.cells #[] 33)).heap.size, 0, none⟩) 0 0) 0 [] := World.ownsRow_lit (w.alloc (.cells #[] 33)) #[] 0 (Nat.le_refl _) (Nat.zero_le _) rfl
  have hb2 : Below (w.alloc (.cells #[] 33)).heap.size (w.alloc (.cells #[] 33)) ((w.alloc (.cells #[] 33)).alloc (.cells #[] 36)) := (Below.refl _ _).alloc (Nat.le_refl _) _
  have HN2 := Lib.hid (own_base hcn HB1.out.size)
  have HO2 := Lib.hid (own_below HO1.out hb2)
  have HB2 := Lib.hid (HB1.out.trans (hb2.mono HB1.out.size))
  clear hcn hb2
  have HN3 : Hid (NewsO ((w.alloc (.cells #[] 33)).alloc (.cells #[] 36)) w.heap.size (.slice (some ⟨w.heap.size + 1, 0, none⟩) 0 0) []) := Lib.hid (by have := HN2.out; rw [size_alloc] at this; exact this)
  have HO3 : Hid (MemO ((w.alloc (.cells #[] 33)).alloc (.cells #[] 36)) w.heap.size (.slice (some ⟨w.heap.size, 0, none⟩) 0 0) []) := Lib.hid HO2.out
  clear HN2 HO2 HO1 HB1
  go_loopw [9, 21] (fun cv i wr => ∃ k : Nat, k ≤ l.length ∧ i = .int .i64 k ∧ MemO wr w.heap.size (.slice (some ⟨w.heap.size, 0, none⟩) 0 0) [] ∧ NewsO wr w.heap.size cv [] ∧ Below w.heap.size w wr) (fun _ i _ => l.length - (intOf i).toNat)
  case atStart => exact ⟨0, Nat.zero_le _, rfl, HO3.out, HN3.out, HB2.out⟩
  case round =>
    obtain ⟨k, hk, rfl, ho, hn, hb⟩ := hrel
    clear HO3 HN3 HB2
    by_cases hlt : k < l.length
    · obtain ⟨x, hx⟩ : ∃ x, l[k]? = some x := ⟨_, List.getElem?_eq_getElem hlt⟩
      obtain ⟨g2, o2, rfl, a0, a1, a2⟩ := HL.out.row k x hx
      have b0 := (hb.cell (World.block_lt_of_cell? w _ a0)).trans a0
      have b1 := (hb.cell (World.block_lt_of_cell? w _ a1)).trans a1
      have b2 := (hb.cell (World.block_lt_of_cell? w _ a2)).trans a2
      have hokx := HN.out x (List.mem_of_getElem? hx)
      have hkz : (0 : Int) ≤ (k : Int) := by omega
      have hkn : (k : Int) < (l.length : Int) := by omega
      obtain ⟨x0, mx⟩ := x
      have hn0 : 0 ≤ x0 := hokx.1.1
      have hn255 : x0 ≤ 255 := hokx.1.2
      simp only at b0 b1 b2
      have hba : Below wr.heap.size wr (wr.alloc (.cells #[.int .u8 mx.f0, .int .u32 mx.f1] 33)) := (Below.refl _ _).alloc (Nat.le_refl _) _
      have HO1 := Lib.hid (own_below ho hba)
      have HN1 := Lib.hid (own_below hn hba)
      have HB1 := Lib.hid (hb.trans (hba.mono hb.size))
      clear a0 a1 a2 hx hokx hn hb ho hba
      go_wp2_with fail
      go_roundw
      case rel => exact ⟨k + 1, by omega, by go_num, HO1.out, HN1.out, HB1.out⟩
      case measure => simp [intOf]; omega
    · obtain rfl : k = l.length := by omega
      have HO1 := Lib.hid ho
      have HN1 := Lib.hid hn
      have HB1 := Lib.hid hb
      clear ho hn hb
      go_wp2_with fail
      go_ret2
      refine ⟨_, _, rfl, ?_, ?_, HB1.out⟩
      · unfold heard; rw [heard_nil]; exact HO1.out
      · unfold heard; rw [heard_nil]; exact HN1.out
theorem refhear_any (A : Option Addr) (c : Nat) (xs : List S33) (self : Int) (A2 : Option Addr) (c2 : Nat) (l : List S36) (w : World) (hx : MemA w A c xs) (h0 : xs.length ≤ 1000) (hl : NewsA w A2 c2 l) (h1 : l.length ≤ 1000)
    (ho : ∀ x ∈ xs, ok33 x) (hn : ∀ x ∈ l, ok36 x) :
    Calls Try.prog 12 #[.slice A xs.length c, .int .u8 self, .slice A2 l.length c2] w fun e w' => HearPost w (heard self xs l).1 (heard self xs l).2 e w' := by
  cases A with
  | none =>
    obtain ⟨rfl, rfl⟩ := hx.nil rfl
    exact refhear_nil self A2 c2 l w hl h1 hn
  | some ad => exact refhear_some ad c xs self A2 c2 l w hx.at h0 hl h1 ho hn
set_option maxRecDepth 100000 in
set_option maxHeartbeats 4000000 in
theorem viewHears_some (A : Option Addr) (c : Nat) (xs : List S33) (self : Int) (A2 : Option Addr) (c2 : Nat) (l : List S36) (w : World) (hx : MemA w A c xs) (hl : NewsA w A2 c2 l) (h1 : xs.length ≤ 9223372036854775807) (h2 : l.length ≤ 9223372036854775807)
    (ho : ∀ x ∈ xs, ok33 x) (hn : ∀ x ∈ l, ok36 x) :
    Calls Try.prog 3 #[.slice A xs.length c, .int .u8 self, .slice A2 l.length c2] w fun e w' => TruePost w e w' := by
  obtain ⟨i0, hi, hzz⟩ := Option.map_eq_some_iff.1 info33
  simp only [Prod.mk.injEq] at hzz
  obtain ⟨hz0, hz1, hz2⟩ := hzz
  have HI0 := Lib.hid (And.intro hi (And.intro hz0 (And.intro hz1 hz2)))
  have hgr := Lib.hid (great_any A c xs A2 c2 l w hx hl h1 h2)
  have HX := Lib.hid hx
  have HL := Lib.hid hl
  have HO := Lib.hid ho
  have HN := Lib.hid hn
  clear hx hl ho hn h1 h2 hi hz0 hz1 hz2
  go_enter Try.func3, Try.ntmps3
  go_wp2_with fail
  refine (hgr.out).mono ?_
  rintro e w1 ⟨rfl, hb1⟩
  have HB1 := Lib.hid hb1
  clear hb1 hgr
  rcases great_dec xs.length l.length with hg | ⟨hg, hg1, hg2⟩
  · rw [hg]
    go_wp2_with fail
    refine (fixed_any w1).mono ?_
    rintro e w2 ⟨rfl, hb2⟩
    have HB2 := Lib.hid (HB1.out.trans (hb2.mono HB1.out.size))
    clear hb2 HB1
    go_wp2_with fail
    go_ret
    exact ⟨rfl, HB2.out⟩
  · rw [hg]
    clear hg
    go_upto_region 3 with fail
    go_cut [7] (fun v wx => MemO wx w1.heap.size v xs ∧ Below w1.heap.size w1 wx)
    case first =>
      have hown : (w1.alloc (.cells #[] 33)).ownsRow w1.heap.size 33 2 (.slice (some ⟨w1.heap.size, 0, none⟩) 0 0) 0 [] := World.ownsRow_lit w1 #[] 0 (Nat.le_refl _) (Nat.zero_le _) rfl
      have hbA : Below w1.heap.size w1 (w1.alloc (.cells #[] 33)) := ((Below.refl _ _).alloc (Nat.le_refl _) _)
      have HOW := Lib.hid hown
      have HBA := Lib.hid hbA
      clear hown hbA
      have HX1 := Lib.hid (HX.out.below HB1.out)
      cases A with
      | none =>
        obtain ⟨rfl, rfl⟩ := HX.out.nil rfl
        go_wp2_with (first
          | (at_builtin; refine Lib.wpList_append_run _ rfl _ _ 22 22 rfl _ _ rfl rfl _ _ (run_append_nothing _ 22 22 22 33 i0 Try.underlying22 HI0.out.1 (some ⟨w1.heap.size, 0, none⟩) 0 0 (Nat.le_refl _) _ (Src.ofNil Try.underlying22 0)) ?_)
          | fail)
        go_meet
        exact ⟨HOW.out, HBA.out⟩
      | some ad =>
        go_wp2_with (first
          | (at_builtin; refine wpList_append_own _ rfl _ _ 22 rfl w1.heap.size 33 i0 (.agg #[.int .u8 0, .int .u32 0]) 2 8 Try.underlying22 HI0.out.1 HI0.out.2.1 HI0.out.2.2.1 HI0.out.2.2.2 rfl (by decide) _ _ _ rfl HOW.out ad xs.length c (memC xs) rfl (flat_len len33 xs) ?c1 (memC_one xs) ?c3 ?c4 ?c5 ?_)
          | fail)
        case c1 =>
          intro j u hj
          have h1 := HX1.out.at j u hj
          exact (World.cell?_alloc_lt w1 _ _ (World.block_lt_of_cell? w1 _ h1)).trans h1
        case c3 => unfold maxLen; omega
        case c4 => omega
        case c5 => simp
        intro v' w2 hown1 hg1 _
        have hb2 : Below w1.heap.size w1 w2 := HBA.out.grown hg1 (by simp) (fun q hq => (HOW.out.lt q hq).1)
        have hown2 : MemO w2 w1.heap.size v' xs := hown1
        have HP := Lib.hid (And.intro hown2 hb2)
        clear hown1 hown2 hb2 hg1
        go_wp2_with fail
        go_meet
        exact HP.out
    case rest =>
      obtain ⟨hm, hb2⟩ := hcut
      obtain ⟨Av, cap1, rfl, hma⟩ := hm.arg
      have HB2 := Lib.hid (HB1.out.trans (hb2.mono HB1.out.size))
      have HMA := Lib.hid hma
      have HX2 := Lib.hid (HX.out.below HB2.out)
      have HL2 := Lib.hid (HL.out.below HB2.out)
      clear hm hb2 hma HX HL
      obtain ⟨i1, i2, i3, i4⟩ := heardFrom_inv self l HN.out (xs, []) HO.out (fun y hy => by simp at hy)
      obtain ⟨hv, hc, hhc⟩ : ∃ hv hc, heard self xs l = (hv, hc) := ⟨_, _, rfl⟩
      have hhc' : heardFrom self (xs, []) l = (hv, hc) := hhc
      rw [hhc'] at i1 i2 i3 i4
      have I1 : Hid (hv.length ≤ 64) := Lib.hid (by simp at i1; omega)
      have I2 : Hid (hc.length ≤ 300) := Lib.hid (by simp at i2; omega)
      clear i1 i2 i3 i4 hhc'
      have HH := Lib.hid (hear_any Av cap1 xs self A2 c2 l wc HMA.out (by omega) HL2.out (by omega) HO.out HN.out)
      rw [hhc] at HH
      have HC := Lib.hid hhc
      clear hhc
      go_wp2_with fail
      refine (HH.out).mono ?_
      rintro e w3 ⟨va, vb, rfl, hva, hvb, hb3⟩
      obtain ⟨Aw, cw, rfl, haw⟩ := hva.arg
      obtain ⟨Ac, cc, rfl, hac⟩ := hvb.arg
      have HB3 := Lib.hid (HB2.out.trans (hb3.mono HB2.out.size))
      have HMA3 := Lib.hid (HMA.out.below hb3)
      have HX3 := Lib.hid (HX2.out.below hb3)
      have HL3 := Lib.hid (HL2.out.below hb3)
      have HAW := Lib.hid haw
      have HAC := Lib.hid hac
      clear hva hvb hb3 haw hac HH HX2 HL2 HMA HB2
      have HH := Lib.hid (refhear_any A c xs self A2 c2 l w3 HX3.out (by omega) HL3.out (by omega) HO.out HN.out)
      rw [HC.out] at HH
      go_wp2_with fail
      refine (HH.out).mono ?_
      rintro e w4 ⟨va, vb, rfl, hva, hvb, hb4⟩
      obtain ⟨Ax, cx, rfl, hax⟩ := hva.arg
      obtain ⟨Ad, cd, rfl, had⟩ := hvb.arg
      have HB4 := Lib.hid (HB3.out.trans (hb4.mono HB3.out.size))
      have HMA4 := Lib.hid (HMA3.out.below hb4)
      have HX4 := Lib.hid (HX3.out.below hb4)
      have HAW4 := Lib.hid (HAW.out.below hb4)
      have HAC4 := Lib.hid (HAC.out.below hb4)
      have HAX := Lib.hid hax
      have HAD := Lib.hid had
      clear hva hvb hb4 hax had HH HX3 HMA3 HB3 HAW HAC HL3
      go_wp2_with fail
      refine (fixed_any w4).mono ?_
      rintro e w5 ⟨rfl, hb5⟩
      have HB5 := Lib.hid (HB4.out.trans (hb5.mono HB4.out.size))
      have HMA5 := Lib.hid (HMA4.out.below hb5)
      have HX5 := Lib.hid (HX4.out.below hb5)
      have HAC5 := Lib.hid (HAC4.out.below hb5)
      have HAD5 := Lib.hid (HAD.out.below hb5)
      have HS := Lib.hid (same13_any Aw cw Ax cx hv w5 (HAW4.out.below hb5).row HAW4.out.cap (HAX.out.below hb5).row HAX.out.cap (Nat.le_trans I1.out (by decide)))
      clear hb5 HB4 HMA4 HX4 HAC4 HAD HAX HAW4
      go_wp2_with fail
      refine (HS.out).mono ?_
      rintro e w6 ⟨rfl, hb6⟩
      have HB6 := Lib.hid (HB5.out.trans (hb6.mono HB5.out.size))
      have HMA6 := Lib.hid (HMA5.out.below hb6)
      have HX6 := Lib.hid (HX5.out.below hb6)
      have HS2 := Lib.hid (same14_any Ac cc Ad cd hc w6 (HAC5.out.below hb6).row HAC5.out.cap (HAD5.out.below hb6).row HAD5.out.cap (Nat.le_trans I2.out (by decide)))
      clear hb6 HS HB5 HMA5 HX5 HAC5 HAD5
      go_wp2_with fail
      refine (HS2.out).mono ?_
      rintro e w7 ⟨rfl, hb7⟩
      have HB7 := Lib.hid (HB6.out.trans (hb7.mono HB6.out.size))
      have HS3 := Lib.hid (same13_any Av cap1 A c xs w7 (HMA6.out.below hb7).row HMA6.out.cap (HX6.out.below hb7).row HX6.out.cap (by omega))
      clear hb7 HS2 HB6 HMA6 HX6
      go_wp2_with fail
      refine (HS3.out).mono ?_
      rintro e w8 ⟨rfl, hb8⟩
      have HB8 := Lib.hid (HB7.out.trans (hb8.mono HB7.out.size))
      clear hb8 HS3 HB7
      go_wp2_with fail
      go_ret
      exact ⟨rfl, HB8.out⟩
theorem viewHears_walk (a : Option Addr) (len cap : Nat) (L : List S33) (self : Int) (a2 : Option Addr) (len2 cap2 : Nat) (L2 : List S36) (w : World) (hrow : RowOf cells33 2 ok33 w a len cap L) (hr : len * 8 ≤ 140737488351232) (_hs : (Lit.int .u8 self).wf = true) (hrow2 : RowOf cells36 3 ok36 w a2 len2 cap2 L2) (hr2 : len2 * 12 ≤ 140737488351232) :
    Calls Try.prog 3 #[.slice a len cap, .int .u8 self, .slice a2 len2 cap2] w fun e w' => TruePost w e w' := by
  have hm := memA_of_row hrow
  have hn := newsA_of_row hrow2
  have hs := hrow.size
  have hs2 := hrow2.size
  subst hs hs2
  exact viewHears_some a cap L self a2 cap2 L2 w hm hn (by omega) (by omega) hrow.good hrow2.good
end Go.Proofs.Ythpfknigommheaa
