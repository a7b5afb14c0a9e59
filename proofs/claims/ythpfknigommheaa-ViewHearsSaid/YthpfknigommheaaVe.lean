/- The contract of the reference's Hear. Conditions: at most 1000 members, at most 1000 news, as Go's slices lie. -/
import Derived.Test.YthpfknigommheaaVh
namespace Go.Proofs.Ythpfknigommheaa
open Go.RowKit PViewTells Go.Proofs.YthpfknigommheaaW.PrintWords

/-- What the reference's Hear keeps while it stores a member. -/
def PostC (w : World) (B1 g cap b : Nat) (cv : Value) (m0 : S33) (ch : List S36) (out : List S33) (wx : World) : Prop :=
  MemO wx w.heap.size (.slice (some ⟨g, 0, none⟩) out.length cap) out ∧ NewsO wx B1 cv ch ∧ Below w.heap.size w wx ∧ B1 ≤ wx.heap.size ∧ wx.cell? ⟨b, 0, none⟩ = some (.int .u8 m0.f0) ∧ wx.cell? ⟨b, 1, none⟩ = some (.int .u32 m0.f1)
theorem PostC.keep {w : World} {B1 g cap b : Nat} {cv : Value} {m0 : S33} {ch : List S36} {out : List S33} {W W' : World} (h : PostC w B1 g cap b cv m0 ch out W) (hb : Below W.heap.size W W') : PostC w B1 g cap b cv m0 ch out W' :=
  ⟨own_below h.1 hb, own_below h.2.1 hb, h.2.2.1.trans (hb.mono h.2.2.1.size), Nat.le_trans h.2.2.2.1 hb.size, cell_keep hb h.2.2.2.2.1, cell_keep hb h.2.2.2.2.2⟩
theorem heap_size_set (W : World) (a : Addr) (v : Value) : (W.setCell a v).heap.size = W.heap.size := by simp [World.setCell]
theorem PostC.set2 {w : World} {B1 g cap b : Nat} {cv : Value} {m0 : S33} {ch : List S36} {out : List S33} {W : World} (h : PostC w B1 g cap b cv m0 ch out W) {n : Nat} (hn : n < out.length) (hg : g < B1) (hB : w.heap.size ≤ g) (hne : g ≠ b) (x : S33) :
    PostC w B1 g cap b cv m0 ch (out.set n x) ((W.setCell ⟨g, n * 2, none⟩ (.int .u8 x.f0)).setCell ⟨g, n * 2 + 1, none⟩ (.int .u32 x.f1)) :=
  ⟨by have := MemO.set h.1 hn (x := x); rw [List.length_set]; exact this, ownsRow_setCell_below (ownsRow_setCell_below h.2.1 hg _) hg _,
   (h.2.2.1.setCell (p := ⟨g, n * 2, none⟩) hB _).setCell (p := ⟨g, n * 2 + 1, none⟩) hB _,
   by rw [heap_size_set, heap_size_set]; exact h.2.2.2.1, set2_far hne h.2.2.2.2.1, set2_far hne h.2.2.2.2.2⟩
theorem memC_set1 : ∀ (l : List S33) (i : Nat) (x : S33) (y : S33), l[i]? = some y → y.f0 = x.f0 → (memC l).set (i * 2 + 1) (.int .u32 x.f1) = memC (l.set i x)
  | [], i, x, y, h, _ => by simp at h
  | z :: l, 0, x, y, h, e => by
    simp at h; subst h; simp [memC_cons, e]
  | z :: l, i + 1, x, y, h, e => by
    rw [List.set_cons_succ, memC_cons, memC_cons, ← memC_set1 l i x y (by simpa using h) e, show (i + 1) * 2 + 1 = i * 2 + 1 + 1 + 1 by omega, List.set_cons_succ, List.set_cons_succ]
theorem PostC.set1 {w : World} {B1 g cap b : Nat} {cv : Value} {m0 : S33} {ch : List S36} {out : List S33} {W : World} (h : PostC w B1 g cap b cv m0 ch out W) {n : Nat} (hg : g < B1) (hB : w.heap.size ≤ g) (hne : g ≠ b) {x y : S33} (hy : out[n]? = some y) (e : y.f0 = x.f0) :
    PostC w B1 g cap b cv m0 ch (out.set n x) (W.setCell ⟨g, n * 2 + 1, none⟩ (.int .u32 x.f1)) :=
  ⟨by unfold MemO; rw [List.length_set, ← memC_set1 out n x y hy e]; exact own_set h.1, ownsRow_setCell_below h.2.1 hg _,
   h.2.2.1.setCell (p := ⟨g, n * 2 + 1, none⟩) hB _,
   by rw [heap_size_set]; exact h.2.2.2.1, (World.cell?_setCell_far _ _ _ _ hne).trans h.2.2.2.2.1, (World.cell?_setCell_far _ _ _ _ hne).trans h.2.2.2.2.2⟩
theorem set_same {α : Type} : ∀ (l : List α) (i : Nat) (x : α), l[i]? = some x → l.set i x = l
  | [], _, _, _ => rfl
  | z :: l, 0, x, h => by simp at h; subst h; rfl
  | z :: l, i + 1, x, h => by rw [List.set_cons_succ, set_same l i x (by simpa using h)]

theorem ref_bump {w : World} {B1 g cap b : Nat} {cv : Value} {m0 : S33} {ch : List S36} {out : List S33} {W : World} {n : Nat} {m mx : S33} (h : PostC w B1 g cap b cv m0 ch out W) (hn : n < out.length) (hg : g < B1) (hB : w.heap.size ≤ g) (hne : g ≠ b) (hm : m = ⟨1, bump mx.f1⟩) (_h0 : 0 ≤ mx.f1) (h1 : mx.f1 < 4294967295) :
    PostC w B1 g cap b cv m0 ch (out.set n m) (((W.setCell ⟨g, n * 2, none⟩ (.int .u8 1)).setCell ⟨g, n * 2 + 1, none⟩ (.int .u32 mx.f1)).setCell ⟨g, n * 2 + 1, none⟩ (.int .u32 ((mx.f1 + 1) % 4294967296))) := by
  have h2 := (h.set2 hn hg hB hne ⟨1, mx.f1⟩).set1 (n := n) (x := ⟨1, mx.f1 + 1⟩) (y := ⟨1, mx.f1⟩) hg hB hne (by rw [List.getElem?_set_self hn]) rfl
  rw [List.set_set] at h2
  have e : m = ⟨1, mx.f1 + 1⟩ := by rw [hm]; unfold bump; congr 1; omega
  rw [e]
  rw [show (mx.f1 + 1) % 4294967296 = mx.f1 + 1 by omega]
  exact h2
theorem ref_top {w : World} {B1 g cap b : Nat} {cv : Value} {m0 : S33} {ch : List S36} {out : List S33} {W : World} {n : Nat} {m mx : S33} (h : PostC w B1 g cap b cv m0 ch out W) (hn : n < out.length) (hg : g < B1) (hB : w.heap.size ≤ g) (hne : g ≠ b) (hm : m = ⟨1, bump mx.f1⟩) (h0 : 0 ≤ mx.f1 ∧ mx.f1 ≤ 4294967295) (h1 : 4294967295 ≤ mx.f1) :
    PostC w B1 g cap b cv m0 ch (out.set n m) ((W.setCell ⟨g, n * 2, none⟩ (.int .u8 1)).setCell ⟨g, n * 2 + 1, none⟩ (.int .u32 mx.f1)) := by
  have h2 := h.set2 hn hg hB hne ⟨1, mx.f1⟩
  have e : m = ⟨1, mx.f1⟩ := by rw [hm]; unfold bump; congr 1; omega
  rw [e]
  exact h2
set_option maxRecDepth 100000 in
set_option maxHeartbeats 8000000 in
theorem refhear_some (ad : Addr) (c : Nat) (xs : List S33) (self : Int) (A2 : Option Addr) (c2 : Nat) (l : List S36) (w : World) (hx : ∀ (j : Nat) (u : Value), (memC xs)[j]? = some u → w.cell? (ad.add j) = some u) (h0 : xs.length ≤ 1000) (hl : NewsA w A2 c2 l) (h1 : l.length ≤ 1000)
    (ho : ∀ x ∈ xs, ok33 x) (hn : ∀ x ∈ l, ok36 x) :
    Calls Try.prog 12 #[.slice (some ad) xs.length c, .int .u8 self, .slice A2 l.length c2] w fun e w' => HearPost w (heard self xs l).1 (heard self xs l).2 e w' := by
  obtain ⟨i0, hi, hzz⟩ := Option.map_eq_some_iff.1 info33
  simp only [Prod.mk.injEq] at hzz
  obtain ⟨hz0, hz1, hz2⟩ := hzz
  have hown : (w.alloc (.cells #[] 33)).ownsRow w.heap.size 33 2 (.slice (some ⟨w.heap.size, 0, none⟩) 0 0) 0 [] := World.ownsRow_lit w #[] 0 (Nat.le_refl _) (Nat.zero_le _) rfl
  have HX := Lib.hid hx
  have HL := Lib.hid hl
  have HO := Lib.hid ho
  have HN := Lib.hid hn
  clear hx hl ho hn
  go_enter Try.func12, Try.ntmps12
  go_wp2_with (first
    | (at_builtin; refine wpList_append_own _ rfl _ _ 22 rfl w.heap.size 33 i0 (.agg #[.int .u8 0, .int .u32 0]) 2 8 Try.underlying22 hi hz0 hz1 hz2 rfl (by decide) _ _ _ rfl hown ad xs.length c (memC xs) rfl (flat_len len33 xs) ?c1 (memC_one xs) ?c3 ?c4 ?c5 ?_)
    | fail)
  case c1 =>
    intro j u hj
    have h1 := HX.out j u hj
    exact (World.cell?_alloc_lt w _ _ (World.block_lt_of_cell? w _ h1)).trans h1
  case c3 => unfold maxLen; omega
  case c4 => omega
  case c5 => simp
  intro v' w1 hown1 hg1 _
  have hb1 : Below w.heap.size w w1 := ((Below.refl _ _).alloc (Nat.le_refl _) _).grown hg1 (by simp) (fun q hq => (hown.lt q hq).1)
  have hown2 : MemO w1 w.heap.size v' xs := hown1
  obtain ⟨Av, cap1, rfl, hcv, _⟩ := hown2.reads
  have HV := Lib.hid hown2
  have HB := Lib.hid hb1
  clear hown1 hown2 hb1 hg1 hown
  go_wp2_with fail
  have hcn : (w1.alloc (.cells #[] 36)).ownsRow w1.heap.size 36 3 (.slice (some ⟨w1.heap.size, 0, none⟩) 0 0) 0 [] := World.ownsRow_lit w1 #[] 0 (Nat.le_refl _) (Nat.zero_le _) rfl
  have hb2 : Below w1.heap.size w1 (w1.alloc (.cells #[] 36)) := (Below.refl _ _).alloc (Nat.le_refl _) _
  have HCN := Lib.hid hcn
  have HV2 := Lib.hid (own_below HV.out hb2)
  have HB2 := Lib.hid (HB.out.trans (hb2.mono HB.out.size))
  have HS2 := Lib.hid hb2.size
  clear hcn hb2
  go_loopw [9, 21] (fun cv i wr => ∃ (k : Nat) (out : List S33) (ch : List S36), k ≤ l.length ∧ i = .int .i64 k ∧ heardFrom self (xs, []) (l.take k) = (out, ch) ∧ MemO wr w.heap.size (.slice Av xs.length cap1) out ∧ NewsO wr w1.heap.size cv ch ∧ Below w.heap.size w wr ∧ w1.heap.size ≤ wr.heap.size) (fun _ i _ => l.length - (intOf i).toNat)
  case atStart => exact ⟨0, xs, [], Nat.zero_le _, rfl, rfl, HV2.out, HCN.out, HB2.out, HS2.out⟩
  case round =>
    obtain ⟨k, out, ch, hk, rfl, hh, ho, hn, hb, hs⟩ := hrel
    clear HV2 HCN HB2 HS2
    obtain ⟨i1, i2, i3, i4⟩ := heardFrom_inv self (l.take k) (fun x hx => HN.out x (List.mem_of_mem_take hx)) (xs, []) HO.out (fun y hy => by simp at hy)
    rw [hh] at i1 i2 i3 i4
    simp only at i1 i2 i3 i4
    have i2' : ch.length ≤ 1000 := by
      have : (l.take k).length ≤ 1000 := by rw [List.length_take]; omega
      simp at i2; omega
    by_cases hlt : k < l.length
    · obtain ⟨x, hx⟩ : ∃ x, l[k]? = some x := ⟨_, List.getElem?_eq_getElem hlt⟩
      obtain ⟨g2, o2, rfl, a0, a1, a2⟩ := HL.out.row k x hx
      have b0 := (hb.cell (World.block_lt_of_cell? w _ a0)).trans a0
      have b1 := (hb.cell (World.block_lt_of_cell? w _ a1)).trans a1
      have b2 := (hb.cell (World.block_lt_of_cell? w _ a2)).trans a2
      have hokx := HN.out x (List.mem_of_getElem? hx)
      have hmore := heardFrom_more self (xs, []) l k x hx
      rw [hh] at hmore
      have HM := Lib.hid hmore
      have HOK := Lib.hid hokx
      have hkz : (0 : Int) ≤ (k : Int) := by omega
      have hkn : (k : Int) < (l.length : Int) := by omega
      obtain ⟨x0, mx⟩ := x
      obtain ⟨n, hn0⟩ : ∃ n : Nat, x0 = (n : Int) := ⟨x0.toNat, by have : 0 ≤ x0 := hokx.1.1; omega⟩
      subst hn0
      have hn255 : (n : Int) ≤ 255 := hokx.1.2
      simp only at b0 b1 b2
      have hba : Below wr.heap.size wr (wr.alloc (.cells #[.int .u8 mx.f0, .int .u32 mx.f1] 33)) := (Below.refl _ _).alloc (Nat.le_refl _) _
      have HO1 := Lib.hid (own_below ho hba)
      have HN1 := Lib.hid (own_below hn hba)
      have HB1 := Lib.hid (hb.trans (hba.mono hb.size))
      have HS1 := Lib.hid (Nat.le_trans hs hba.size)
      have HI1 := Lib.hid i1
      have HI3 := Lib.hid i3
      have HHO := Lib.hid ho
      clear a0 a1 a2 hmore hx hh hokx hn hb hs ho hba i3 i4 i2
      by_cases hin : n < out.length
      · rw [i1] at hin
        clear i1
        have hini : (n : Int) < (xs.length : Int) := by omega
        have hin2 : ¬ (xs.length : Int) ≤ (n : Int) := by omega
        obtain ⟨m0, hm0⟩ : ∃ m0, out[n]? = some m0 := ⟨_, List.getElem?_eq_getElem (by rw [HI1.out]; exact hin)⟩
        have HM0 := Lib.hid hm0
        have hst : stepN self (out, ch) ⟨(n : Int), mx⟩ = if eq33 (hear1 m0 ((n : Int) == self) mx) m0 then (out, ch) else (out.set n (hear1 m0 ((n : Int) == self) mx), ch ++ [⟨(n : Int), hear1 m0 ((n : Int) == self) mx⟩]) := by
          unfold stepN
          simp only [Int.toNat_natCast, hm0]
        have HST := Lib.hid hst
        clear hst hm0
        by_cases hval : mx.f0 < 1 ∨ 4 < mx.f0
        · have hh1 : hear1 m0 ((n : Int) == self) mx = m0 := by unfold hear1; rw [if_pos hval]
          have hst1 := HM.out.trans HST.out
          rw [hh1, eq33_iff.2 rfl, if_pos rfl] at hst1
          have HS := Lib.hid hst1
          clear hh1 hst1
          rcases hval with hv | hv
          · have hz0 : mx.f0 = 0 := by have := HOK.out.2.1.1; simp only at this; omega
            obtain ⟨m0f, m1f⟩ := mx
            simp only at hz0
            subst hz0
            have hq0 : ((0 : Int) == 0) = true := rfl
            clear hv
            go_wp2_with fail
            go_roundw
            case rel => exact ⟨k + 1, out, ch, by omega, by go_num, HS.out, HO1.out, HN1.out, HB1.out, HS1.out⟩
            case measure => simp [intOf]; omega
          · have hq0 : (mx.f0 == 0) = false := beq_eq_false_iff_ne.2 (by omega)
            go_wp2_with fail
            go_roundw
            case rel => exact ⟨k + 1, out, ch, by omega, by go_num, HS.out, HO1.out, HN1.out, HB1.out, HS1.out⟩
            case measure => simp [intOf]; omega
        · have hq0 : (mx.f0 == 0) = false := beq_eq_false_iff_ne.2 (by omega)
          have hv1 : ¬ mx.f0 < 1 := fun h => hval (Or.inl h)
          have hv4 : ¬ 4 < mx.f0 := fun h => hval (Or.inr h)
          clear hval
          obtain ⟨g, cap2, e0, hBg, hgl, c0, c1⟩ := HHO.out.at HM0.out
          injection e0 with e00 e01 e02
          clear e01
          subst e00
          subst e02
          have hgl' : g < (wr.alloc (.cells #[.int .u8 mx.f0, .int .u32 mx.f1] 33)).heap.size := by rw [size_alloc]; exact Nat.lt_succ_of_lt hgl
          have d0 := alloc_keep (o := (.cells #[.int .u8 mx.f0, .int .u32 mx.f1] 33)) c0
          have d1 := alloc_keep (o := (.cells #[.int .u8 mx.f0, .int .u32 mx.f1] 33)) c1
          clear c0 c1
          go_upto_if 55 with fail
          obtain ⟨y, hy⟩ : ∃ y, xs[n]? = some y := ⟨_, List.getElem?_eq_getElem hin⟩
          obtain ⟨g', cap', e9, _, hgl1, _⟩ := HV.out.at hy
          injection e9 with e90 e91 e92
          clear e91 e92
          cases e90
          have hba2 : Below w.heap.size ((wr.alloc (.cells #[.int .u8 mx.f0, .int .u32 mx.f1] 33))) ((wr.alloc (.cells #[.int .u8 mx.f0, .int .u32 mx.f1] 33)).alloc (.cells #[.int .u8 m0.f0, .int .u32 m0.f1] 33)) := (Below.refl _ _).alloc HB1.out.size _
          have hba3 : Below (wr.alloc (.cells #[.int .u8 mx.f0, .int .u32 mx.f1] 33)).heap.size ((wr.alloc (.cells #[.int .u8 mx.f0, .int .u32 mx.f1] 33))) ((wr.alloc (.cells #[.int .u8 mx.f0, .int .u32 mx.f1] 33)).alloc (.cells #[.int .u8 m0.f0, .int .u32 m0.f1] 33)) := (Below.refl _ _).alloc (Nat.le_refl _) _
          have HO2 := Lib.hid (own_below HO1.out hba3)
          have HN2 := Lib.hid (own_below HN1.out hba3)
          have HB2 := Lib.hid (HB1.out.trans hba2)
          have HS2 := Lib.hid (Nat.le_trans HS1.out hba3.size)
          have dd0 := alloc_keep (o := (.cells #[.int .u8 m0.f0, .int .u32 m0.f1] 33)) d0
          have dd1 := alloc_keep (o := (.cells #[.int .u8 m0.f0, .int .u32 m0.f1] 33)) d1
          have q0 := alloc_keep (o := (.cells #[.int .u8 m0.f0, .int .u32 m0.f1] 33)) (cell_new (W := wr) rfl #[.int .u8 mx.f0, .int .u32 mx.f1] 33 0)
          have q1 := alloc_keep (o := (.cells #[.int .u8 m0.f0, .int .u32 m0.f1] 33)) (cell_new (W := wr) rfl #[.int .u8 mx.f0, .int .u32 mx.f1] 33 1)
          have r0 := cell_new (W := wr.alloc (.cells #[.int .u8 mx.f0, .int .u32 mx.f1] 33)) (n := wr.heap.size + 1) (size_alloc _ _) #[.int .u8 m0.f0, .int .u32 m0.f1] 33 0
          have r1 := cell_new (W := wr.alloc (.cells #[.int .u8 mx.f0, .int .u32 mx.f1] 33)) (n := wr.heap.size + 1) (size_alloc _ _) #[.int .u8 m0.f0, .int .u32 m0.f1] 33 1
          clear d0 d1 hy hba2 hba3
          have hg0 : g ≠ wr.heap.size := Nat.ne_of_lt hgl
          have hg1 : g ≠ wr.heap.size + 1 := Nat.ne_of_lt (Nat.lt_succ_of_lt hgl)
          generalize hWW : (wr.alloc (.cells #[.int .u8 mx.f0, .int .u32 mx.f1] 33)).alloc (.cells #[.int .u8 m0.f0, .int .u32 m0.f1] 33) = W at *
          have ho2 : MemO W w.heap.size (.slice (some ⟨g, 0, none⟩) out.length cap1) out := by rw [HI1.out]; exact HO2.out
          have f0 := own_free (i := n * 2) ho2
          have f1 := own_free (i := n * 2 + 1) ho2
          have HO3 := Lib.hid ho2
          have HIN : Hid (n < out.length) := Lib.hid (by rw [HI1.out]; exact hin)
          have HGL := Lib.hid hgl1
          have HBG := Lib.hid hBg
          have HWW := Lib.hid hWW
          clear ho2 hWW hgl1 hBg hgl'
          obtain ⟨m, hm⟩ : ∃ m, m = hear1 m0 ((n : Int) == self) mx := ⟨_, rfl⟩
          rw [← hm] at HST
          have HMM := Lib.hid hm
          clear hm
          have HP : Hid (PostC w w1.heap.size g cap1 (wr.heap.size + 1) u9 m0 ch out W) := Lib.hid ⟨HO3.out, HN2.out, HB2.out, HS2.out, r0, r1⟩
          clear r0 r1
          go_cut [] (fun wx => PostC w w1.heap.size g cap1 (wr.heap.size + 1) u9 m0 ch (out.set n m) wx)
          case first =>
            have r0 := HP.out.2.2.2.2.1
            have r1 := HP.out.2.2.2.2.2
            by_cases hself : (n : Int) = self
            · subst hself
              have hm := HMM.out
              unfold hear1 at hm
              rw [if_neg (fun h => h.elim hv1 hv4), if_pos (by simp)] at hm
              by_cases hc : mx.f1 > m0.f1
              · rw [if_pos (Or.inl hc)] at hm
                have HM2 := Lib.hid hm
                clear hm
                by_cases hd : mx.f1 < 4294967295
                · have HM3 := Lib.hid hd
                  have HR := Lib.hid HOK.out.2.2.1
                  go_wp2_with fail
                  go_meet
                  exact ref_bump HP.out HIN.out HGL.out HBG.out hg1 HM2.out HR.out HM3.out
                · have HM3 := Lib.hid (Int.not_lt.1 hd)
                  have HR := Lib.hid HOK.out.2.2
                  go_wp2_with fail
                  go_meet
                  exact ref_top HP.out HIN.out HGL.out HBG.out hg1 HM2.out HR.out HM3.out
              · by_cases hc2 : mx.f1 = m0.f1
                · by_cases hc3 : mx.f0 = 1
                  · rw [if_neg (fun h => h.elim hc (fun h => h.2 hc3))] at hm
                    have HM2 := Lib.hid hm
                    have hq1 : (mx.f1 == m0.f1) = true := beq_iff_eq.2 hc2
                    have hq2 : (mx.f0 == 1) = true := beq_iff_eq.2 hc3
                    clear hm hc2 hc3
                    go_wp2_with fail
                    go_meet
                    rw [HM2.out, set_same out n m0 HM0.out]
                    exact HP.out
                  · rw [if_pos (Or.inr ⟨hc2, hc3⟩)] at hm
                    have HM2 := Lib.hid hm
                    have hq1 : (mx.f1 == m0.f1) = true := beq_iff_eq.2 hc2
                    have hq2 : (mx.f0 == 1) = false := beq_eq_false_iff_ne.2 hc3
                    clear hm hc2 hc3
                    by_cases hd : mx.f1 < 4294967295
                    · have HM3 := Lib.hid hd
                      have HR := Lib.hid HOK.out.2.2.1
                      go_wp2_with fail
                      go_meet
                      exact ref_bump HP.out HIN.out HGL.out HBG.out hg1 HM2.out HR.out HM3.out
                    · have HM3 := Lib.hid (Int.not_lt.1 hd)
                      have HR := Lib.hid HOK.out.2.2
                      go_wp2_with fail
                      go_meet
                      exact ref_top HP.out HIN.out HGL.out HBG.out hg1 HM2.out HR.out HM3.out
                · rw [if_neg (fun h => h.elim hc (fun h => hc2 h.1))] at hm
                  have HM2 := Lib.hid hm
                  have hq1 : (mx.f1 == m0.f1) = false := beq_eq_false_iff_ne.2 hc2
                  clear hm hc2
                  go_wp2_with fail
                  go_meet
                  rw [HM2.out, set_same out n m0 HM0.out]
                  exact HP.out
            · have hm := HMM.out
              have hns : ((n : Int) == self) = false := beq_eq_false_iff_ne.2 hself
              unfold hear1 at hm
              rw [if_neg (fun h => h.elim hv1 hv4), hns, if_neg (by decide)] at hm
              by_cases hnw : newer mx m0 = true
              · rw [if_pos hnw] at hm
                have HM2 := Lib.hid hm
                clear hm hself
                go_wp2_with (first | (go_at_call 15; refine (newer15_any mx m0 _).mono ?_; rintro e w9 ⟨rfl, hb9⟩; rw [hnw]; have HP9 := Lib.hid (HP.out.keep hb9); have z0 := cell_keep hb9 q0; have z1 := cell_keep hb9 q1; have z2 := own_free (i := n * 2) HP9.out.1; have z3 := own_free (i := n * 2 + 1) HP9.out.1; have z4 := cell_keep hb9 dd0; have z5 := cell_keep hb9 dd1) | fail)
                go_meet
                rw [HM2.out]
                exact HP9.out.set2 HIN.out HGL.out HBG.out hg1 mx
              · rw [if_neg hnw] at hm
                have HM2 := Lib.hid hm
                have hnw := Bool.not_eq_true _ ▸ hnw
                clear hm hself
                go_wp2_with (first | (go_at_call 15; refine (newer15_any mx m0 _).mono ?_; rintro e w9 ⟨rfl, hb9⟩; rw [hnw]; have HP9 := Lib.hid (HP.out.keep hb9)) | fail)
                go_meet
                rw [HM2.out, set_same out n m0 HM0.out]
                exact HP9.out
          case rest =>
            have HP2 := Lib.hid hcut
            have k2 := hcut.2.2.2.2.1
            have k3 := hcut.2.2.2.2.2
            obtain ⟨g', cap', e9, _, hgl2, k0, k1⟩ := hcut.1.at (show (out.set n m)[n]? = some m by rw [List.getElem?_set_self HIN.out])
            injection e9 with e90 e91 e92
            clear e91 e92
            cases e90
            clear hcut dd0 dd1 q0 q1 f0 f1 HP
            have heq := eqA33
            have HHI := Lib.hid hi
            have HHZ := Lib.hid (And.intro hz0 (And.intro hz1 hz2))
            clear hi hz0 hz1 hz2
            by_cases hsame : m = m0
            · have hst1 := HM.out.trans HST.out
              rw [eq33_iff.2 hsame, if_pos rfl] at hst1
              have HST1 := Lib.hid hst1
              have hset : out.set n m = out := by rw [hsame, set_same out n m0 HM0.out]
              have HP3 : Hid (PostC w w1.heap.size g cap1 (wr.heap.size + 1) u9 m0 ch out wc) := Lib.hid (by rw [← hset]; rw [hset]; exact hset ▸ HP2.out)
              clear hst1 hset
              subst hsame
              go_wp2_with fail
              go_quiet (fail)
              go_wp2_with fail
              go_roundw
              case rel => exact ⟨k + 1, out, ch, by omega, by go_num, HST1.out, by have := HP3.out.1; rw [HI1.out] at this; exact this, HP3.out.2.1, below_drewN HP3.out.2.2.1 nq, HP3.out.2.2.2.1⟩
              case measure => simp [intOf]; omega
            · have hst1 := HM.out.trans HST.out
              have hq := eq33_not.2 hsame
              rw [hq, if_neg (by decide)] at hst1
              have HST1 := Lib.hid hst1
              unfold eq33 at hq
              clear hst1 hsame
              go_wp2_with fail
              go_quiet (fail)
              obtain ⟨i36, hi0, hzz⟩ := Option.map_eq_some_iff.1 info36
              simp only [Prod.mk.injEq] at hzz
              obtain ⟨hy0, hy1, hy2⟩ := hzz
              have HP4 : Hid (PostC w w1.heap.size g cap1 (wr.heap.size + 1) u9 m0 ch (out.set n m) (wc.drewN nq)) := Lib.hid ⟨HP2.out.1, HP2.out.2.1, below_drewN HP2.out.2.2.1 nq, HP2.out.2.2.2⟩
              have hss : wc.heap.size = (wc.drewN nq).heap.size := rfl
              have HSS := Lib.hid hss
              clear hss
              go_wp2_with (first
                | (at_builtin; refine wpList_append_own _ rfl _ _ 23 rfl w1.heap.size 36 i36 (.agg #[.int .u8 0, .int .u8 0, .int .u32 0]) 3 12 Try.underlying23 hi0 hy0 hy1 hy2 rfl (by decide) _ _ _ rfl (World.ownsRow.alloc HP4.out.2.1 _) ⟨wc.heap.size, 0, none⟩ 1 1 (cells36 ⟨(n : Int), m⟩) rfl rfl ?c1 (newsC_one _) ?c3 ?c4 ?c5 ?_)
                | fail)
              case c1 =>
                intro j u hj
                rw [add_at, Nat.zero_add, cell_new HSS.out.symm]
                simpa [cells36] using hj
              case c3 => unfold maxLen; omega
              case c4 => omega
              case c5 => rw [size_alloc, ← HSS.out]; exact Nat.le_succ_of_le HP2.out.2.2.2.1
              intro v' w2 hown1 hg1' _
              have hM2 := own_grown (World.ownsRow.alloc HP4.out.1 (.cells #[.int .u8 (n : Int), .int .u8 m.f0, .int .u32 m.f1] 36)) hg1' (fun q hq hr => by
                have h1 := (World.ownsRow.lt HP4.out.2.1 q hr).1
                have h2 := HGL.out
                have h3 : g = q := by simpa [Value.ownBlock] using hq
                omega)
              have hB2 : Below w.heap.size w w2 := (HP4.out.2.2.1.alloc (Nat.le_trans HP2.out.2.2.1.size (Nat.le_of_eq HSS.out)) _).grown hg1' (by rw [size_alloc, ← HSS.out]; exact Nat.le_succ_of_le HP2.out.2.2.1.size) (fun q hq => Nat.le_trans HB.out.size (World.ownsRow.lt HP4.out.2.1 q hq).1)
              have hS2 : w1.heap.size ≤ w2.heap.size := Nat.le_trans HP2.out.2.2.2.1 (Nat.le_trans (Nat.le_of_eq HSS.out) (Nat.le_trans (by rw [size_alloc]; exact Nat.le_succ _) hg1'.size))
              have hM3 : MemO w2 w.heap.size (.slice (some ⟨g, 0, none⟩) xs.length cap1) (out.set n m) := by
                unfold MemO
                have hM2' := hM2
                rw [List.length_set, HI1.out] at hM2'
                rw [List.length_set, HI1.out]
                exact hM2'
              have hN3 : NewsO w2 w1.heap.size v' (ch ++ [⟨(n : Int), m⟩]) := by
                unfold NewsO
                rw [List.length_append, newsC_snoc]
                exact hown1
              have HM3 := Lib.hid hM3
              have HN3 := Lib.hid hN3
              have HB3 := Lib.hid hB2
              have HS3 := Lib.hid hS2
              clear hM2 hB2 hS2 hM3 hN3 hown1 hg1' k0 k1 k2 k3
              go_wp2_with fail
              go_roundw
              case rel => exact ⟨k + 1, out.set n m, ch ++ [⟨(n : Int), m⟩], by omega, by go_num, HST1.out, HM3.out, HN3.out, HB3.out, HS3.out⟩
              case measure => simp [intOf]; omega
      · rw [i1] at hin
        clear i1
        have hini : ¬ (n : Int) < (xs.length : Int) := by omega
        have hin2 : (xs.length : Int) ≤ (n : Int) := by omega
        have hst : stepN self (out, ch) ⟨(n : Int), mx⟩ = (out, ch) := by
          unfold stepN
          have : out[n]? = none := List.getElem?_eq_none (by rw [HI1.out]; omega)
          simp only [Int.toNat_natCast, this]
        have HS := Lib.hid (HM.out.trans hst)
        clear hst
        go_wp2_with fail
        go_roundw
        case rel => exact ⟨k + 1, out, ch, by omega, by go_num, HS.out, HO1.out, HN1.out, HB1.out, HS1.out⟩
        case measure => simp [intOf]; omega
    · obtain rfl : k = l.length := by omega
      rw [List.take_of_length_le (Nat.le_refl _)] at hh
      have HH := Lib.hid hh
      have HO1 := Lib.hid ho
      have HN1 := Lib.hid hn
      have HB1 := Lib.hid hb
      have HBS := Lib.hid HB.out.size
      clear ho hn hb hs hh i1 i2 i3 i4
      go_wp2_with fail
      go_ret2
      refine ⟨_, _, rfl, ?_, ?_, HB1.out⟩
      · unfold heard; rw [HH.out]; exact HO1.out
      · unfold heard; rw [HH.out]; exact own_base HN1.out HBS.out
end Go.Proofs.Ythpfknigommheaa
