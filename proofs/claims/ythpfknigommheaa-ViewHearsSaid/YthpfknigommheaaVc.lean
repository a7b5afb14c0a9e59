/- The contract of a view's Hear. Conditions: at most 1000 members, at most 1000 news, as Go's slices lie. -/
import Derived.Test.YthpfknigommheaaVb
import Derived.Deep.RegionHeld3
namespace Go.Proofs.Ythpfknigommheaa
open Go.RowKit PViewTells Go.Proofs.YthpfknigommheaaW.PrintWords Go.Proofs.YthpfknigommheaaW.PrintMore

theorem bump_mx {i : Int} (h0 : 0 ≤ i) (h1 : i ≤ 4294967295) : mx i ((mn i 4294967294 + 1) % 4294967296) = bump i := by
  unfold mx mn bump
  omega
/-- What the program's hear computes is 'hear1'. -/
theorem hear_f (m x : S33) (hx : ok33 x) (self : Bool) : view_hear.f 2 m.f0 m.f1 self x.f0 x.f1 = some ((hear1 m self x).f0, (hear1 m self x).f1) := by
  have hb := bump_mx hx.2.1 hx.2.2
  unfold view_hear.f hear1
  by_cases h1 : x.f0 < 1
  · rw [if_pos h1, if_pos (Or.inl h1)]
    simp only [view_hear.j0]
    rw [if_pos trivial]
  · rw [if_neg h1]
    by_cases h4 : 4 < x.f0
    · rw [if_pos (Or.inr h4)]
      simp only [view_hear.j0]
      rw [if_pos (decide_eq_true h4)]
    · rw [if_neg (fun h => h.elim h1 h4)]
      have hd : decide (x.f0 > 4) = false := decide_eq_false h4
      rw [hd]
      simp only [view_hear.j0]
      rw [if_neg (by decide)]
      cases self with
      | true =>
        rw [if_pos rfl]
        simp only [view_hear.j1]
        rw [if_neg (by decide), if_pos trivial, if_pos trivial, hb]
        by_cases a : m.f1 < x.f1
        · rw [if_pos (show x.f1 > m.f1 from a), if_pos (Or.inl a)]
        · rw [if_neg (show ¬ x.f1 > m.f1 from a)]
          by_cases b : x.f1 = m.f1
          · rw [if_pos b]
            by_cases c : x.f0 = 1
            · rw [if_pos c, if_neg (fun h => h.elim a (fun h => h.2 c))]
            · rw [if_neg c, if_pos (Or.inr ⟨b, c⟩)]
          · rw [if_neg b, if_neg (fun h => h.elim a (fun h => b h.1))]
      | false =>
        rw [if_neg (by decide), if_neg (by decide)]
        have hn : view_Newer.f x.f0 x.f1 m.f0 m.f1 = some (newer x m) := by
          unfold view_Newer.f newer
          by_cases a : x.f1 > m.f1
          · rw [if_pos a, decide_eq_true (show m.f1 < x.f1 from a)]; rfl
          · rw [if_neg a, decide_eq_false (show ¬ m.f1 < x.f1 from a)]
            by_cases b : x.f1 = m.f1
            · rw [if_pos b, decide_eq_true b]; rfl
            · rw [if_neg b, decide_eq_false b]; rfl
        rw [hn, Option.bind_some]
        simp only [view_hear.j1]
        by_cases c : newer x m = true
        · rw [if_pos c, if_pos c]
        · rw [if_neg c, if_neg (by decide), if_neg c]
theorem hear25 (m x : S33) (hx : ok33 x) (self : Bool) (w : World) :
    Calls Try.prog 25 #[.agg #[.int .u8 m.f0, .int .u32 m.f1], .bool self, .agg #[.int .u8 x.f0, .int .u32 x.f1]] w fun e w' => e = .returned (.agg #[.int .u8 (hear1 m self x).f0, .int .u32 (hear1 m self x).f1]) ∧ Below w.heap.size w w' :=
  view_hear.calls 2 m.f0 m.f1 self x.f0 x.f1 _ _ w (hear_f m x hx self)
theorem cell_new {W : World} {n : Nat} (h : W.heap.size = n) (cs : Array Value) (t : TypeId) (j : Nat) : (W.alloc (.cells cs t)).cell? ⟨n, j, none⟩ = cs[j]? := by
  subst h
  rw [cell_of_row _ _ j cs t (0, 0) (heap_alloc_new W _)]
theorem zero_two {w : World} {b : Nat} {t : TypeId} {u v : Value} (h : w.heap[b]? = some (.cells #[u, v] t (0, 0))) : w.cell? ⟨b, 0, none⟩ = some u ∧ w.cell? ⟨b, 1, none⟩ = some v ∧ w.frozen? ⟨b, 0, none⟩ = false ∧ w.frozen? ⟨b, 1, none⟩ = false :=
  ⟨by rw [cell_of_row w b 0 _ _ _ h]; rfl, by rw [cell_of_row w b 1 _ _ _ h]; rfl, frozen_of_row w b 0 _ _ h, frozen_of_row w b 1 _ _ h⟩
theorem cell_keep {w w' : World} {a : Addr} {v : Value} (hb : Below w.heap.size w w') (h : w.cell? a = some v) : w'.cell? a = some v := (hb.cell (World.block_lt_of_cell? w _ h)).trans h
theorem alloc_swap {w : World} {o o' : Obj} {b i : Nat} {v : Value} (hlt : b < w.heap.size) (h : (w.alloc o).cell? ⟨b, i, none⟩ = some v) : (w.alloc o').cell? ⟨b, i, none⟩ = some v :=
  (World.cell?_alloc_lt w _ _ hlt).trans ((World.cell?_alloc_lt w _ _ hlt).symm.trans h)
theorem alloc_keep {w : World} {o : Obj} {a : Addr} {v : Value} (h : w.cell? a = some v) : (w.alloc o).cell? a = some v := (World.cell?_alloc_lt w _ _ (World.block_lt_of_cell? w _ h)).trans h
theorem set2_far {w : World} {b c i j k : Nat} {u v x : Value} (hne : c ≠ b) (h : w.cell? ⟨b, i, none⟩ = some x) : ((w.setCell ⟨c, j, none⟩ u).setCell ⟨c, k, none⟩ v).cell? ⟨b, i, none⟩ = some x :=
  (World.cell?_setCell_far _ _ _ _ hne).trans ((World.cell?_setCell_far _ _ _ _ hne).trans h)
theorem two_set {w : World} {b : Nat} {t : TypeId} {u v u' v' : Value} (h : w.heap[b]? = some (.cells #[u, v] t (0, 0))) : ((w.setCell ⟨b, 0, none⟩ u').setCell ⟨b, 1, none⟩ v').heap[b]? = some (.cells #[u', v'] t (0, 0)) := by
  have h1 := heap_setCell_same w b 0 _ _ (v := u') h
  rw [heap_setCell_same _ b 1 _ _ _ h1]
  rfl
theorem below_drewN {B : Nat} {a w : World} (h : Below B a w) (n : Nat) : Below B a (w.drewN n) := ⟨h.os, h.tape, h.output, h.size, h.block⟩
theorem own_grown {w w' : World} {B e s n : Nat} {v : Value} {cs : List Value} {row : Option Nat} (h : w.ownsRow B e s v n cs) (hg : w.grownBy w' row) (hr : ∀ k, v.ownBlock = some k → row ≠ some k) : w'.ownsRow B e s v n cs := by
  refine ⟨h.1, ?_⟩
  rcases h.2 with h1 | ⟨g, cap, cur, rfl, b, c, d⟩
  · exact .inl h1
  · exact .inr ⟨g, cap, cur, rfl, b, (hg.block g (lt_of_block c) (fun e => hr g rfl e.symm)).trans c, d⟩
theorem size_alloc (w : World) (o : Obj) : (w.alloc o).heap.size = w.heap.size + 1 := by simp
theorem own_set {w : World} {B e s g n cap i : Nat} {cs : List Value} {u : Value} (h : w.ownsRow B e s (.slice (some ⟨g, 0, none⟩) n cap) n cs) :
    (w.setCell ⟨g, i, none⟩ u).ownsRow B e s (.slice (some ⟨g, 0, none⟩) n cap) n (cs.set i u) := by
  refine ⟨by rw [List.length_set]; exact h.1, ?_⟩
  rcases h.2 with ⟨h0, _⟩ | ⟨g', cap', cur, e0, h1, h2, h3, h4, h5, h6⟩
  · cases h0
  · cases e0
    refine .inr ⟨g, cap, cur.setIfInBounds i u, rfl, h1, by rw [heap_setCell_same w g i _ _ _ h2], h3, h4, by simpa using h5, ?_⟩
    rw [← h6, Array.toList_setIfInBounds, List.take_set]
theorem own_free {w : World} {B e s g n cap i : Nat} {cs : List Value} (h : w.ownsRow B e s (.slice (some ⟨g, 0, none⟩) n cap) n cs) : w.frozen? ⟨g, i, none⟩ = false := by
  rcases h.2 with ⟨h0, _⟩ | ⟨g', cap', cur, e0, h1, h2, _⟩
  · cases h0
  · cases e0
    exact frozen_of_row w g i _ _ h2
theorem MemO.at {w : World} {B : Nat} {v : Value} {xs : List S33} (h : MemO w B v xs) {i : Nat} {x : S33} (hx : xs[i]? = some x) : ∃ g cap, v = .slice (some ⟨g, 0, none⟩) xs.length cap ∧ B ≤ g ∧ g < w.heap.size ∧ w.cell? ⟨g, i * 2, none⟩ = some (.int .u8 x.f0) ∧ w.cell? ⟨g, i * 2 + 1, none⟩ = some (.int .u32 x.f1) := by
  obtain ⟨A, cap, rfl, hc, hg⟩ := own_get h (flat_len len33 xs)
  obtain ⟨g, e, hb, c0⟩ := hg (i * 2 + 0) _ (flat_get len33 xs i 0 x hx (by decide))
  obtain ⟨g', e', _, c1⟩ := hg (i * 2 + 1) _ (flat_get len33 xs i 1 x hx (by decide))
  rw [e] at e'
  cases e'
  rw [e]
  exact ⟨g, cap, rfl, hb, World.block_lt_of_cell? w _ c0, c0, c1⟩
theorem MemO.set {w : World} {B g cap i : Nat} {xs : List S33} {x : S33} (h : MemO w B (.slice (some ⟨g, 0, none⟩) xs.length cap) xs) (hi : i < xs.length) :
    MemO ((w.setCell ⟨g, i * 2, none⟩ (.int .u8 x.f0)).setCell ⟨g, i * 2 + 1, none⟩ (.int .u32 x.f1)) B (.slice (some ⟨g, 0, none⟩) xs.length cap) (xs.set i x) := by
  unfold MemO
  rw [List.length_set, memC_set xs i x hi]
  exact own_set (own_set h)
theorem newsC_one (x : S36) : ∀ u ∈ cells36 x, u.oneCell' = true := by
  intro u hu
  simp [cells36] at hu
  rcases hu with rfl | rfl | rfl <;> rfl
theorem newsC_snoc (l : List S36) (x : S36) : newsC (l ++ [x]) = newsC l ++ cells36 x := by simp [newsC]
theorem memC_snoc (l : List S33) (x : S33) : memC (l ++ [x]) = memC l ++ cells33 x := by simp [memC]
def HearPost (w : World) (v : List S33) (ch : List S36) (e : Ending) (w' : World) : Prop := ∃ a b, e = .returned (.tuple #[a, b]) ∧ MemO w' w.heap.size a v ∧ NewsO w' w.heap.size b ch ∧ Below w.heap.size w w'
set_option maxRecDepth 100000 in
set_option maxHeartbeats 2000000 in
theorem hear_any (A : Option Addr) (c : Nat) (xs : List S33) (self : Int) (A2 : Option Addr) (c2 : Nat) (l : List S36) (w : World) (hx : MemA w A c xs) (h0 : xs.length ≤ 1000) (hl : NewsA w A2 c2 l) (h1 : l.length ≤ 1000)
    (ho : ∀ x ∈ xs, ok33 x) (hn : ∀ x ∈ l, ok36 x) :
    Calls Try.prog 11 #[.slice A xs.length c, .int .u8 self, .slice A2 l.length c2] w fun e w' => HearPost w (heard self xs l).1 (heard self xs l).2 e w' := by
  have HX := Lib.hid hx
  have HL := Lib.hid hl
  have HO := Lib.hid ho
  have HN := Lib.hid hn
  clear hx hl ho hn
  go_enter Try.func11, Try.ntmps11
  go_wp2_with fail
  refine (clone_any A c xs w HX.out h0).mono ?_
  rintro e w1 ⟨v, rfl, hv, hb⟩
  obtain ⟨Av, cap1, rfl, hcv, _⟩ := hv.reads
  have HV := Lib.hid hv
  have HB := Lib.hid hb
  clear hv hb
  go_wp2_with fail
  go_loopw [9, 17] (fun cv i wr => ∃ (k : Nat) (out : List S33) (ch : List S36), k ≤ l.length ∧ i = .int .i64 k ∧ heardFrom self (xs, []) (l.take k) = (out, ch) ∧ MemO wr w.heap.size (.slice Av xs.length cap1) out ∧ NewsO wr w1.heap.size cv ch ∧ Below w.heap.size w wr ∧ w1.heap.size ≤ wr.heap.size) (fun _ i _ => l.length - (intOf i).toNat)
  case atStart => exact ⟨0, xs, [], Nat.zero_le _, rfl, rfl, HV.out, World.ownsRow_nil _ _ _ _, HB.out, Nat.le_refl _⟩
  case round =>
    obtain ⟨k, out, ch, hk, rfl, hh, ho, hn, hb, hs⟩ := hrel
    obtain ⟨i1, i2, i3, i4⟩ := heardFrom_inv self (l.take k) (fun x hx => HN.out x (List.mem_of_mem_take hx)) (xs, []) HO.out (fun y hy => by simp at hy)
    rw [hh] at i1 i2 i3 i4
    simp only at i1 i2 i3 i4
    have i2' : ch.length ≤ 1000 := by
      have : (l.take k).length ≤ 1000 := by rw [List.length_take]; omega
      simp at i2; omega
    by_cases hlt : k < l.length
    · obtain ⟨x, hx⟩ : ∃ x, l[k]? = some x := ⟨_, List.getElem?_eq_getElem hlt⟩
      obtain ⟨g2, o2, rfl, a0, a1, a2⟩ := HL.out.row k x hx
      have b0 := (hb.cell (World.block_lt_of_cell? w _ a0)).trans a0
      have b1 := (hb.cell (World.block_lt_of_cell? w _ a1)).trans a1
      have b2 := (hb.cell (World.block_lt_of_cell? w _ a2)).trans a2
      have hokx := HN.out x (List.mem_of_getElem? hx)
      have hmore := heardFrom_more self (xs, []) l k x hx
      rw [hh] at hmore
      have HM := Lib.hid hmore
      have HOK := Lib.hid hokx
      have hkz : (0 : Int) ≤ (k : Int) := by omega
      have hkn : (k : Int) < (l.length : Int) := by omega
      obtain ⟨x0, mx⟩ := x
      obtain ⟨n, hn0⟩ : ∃ n : Nat, x0 = (n : Int) := ⟨x0.toNat, by have : 0 ≤ x0 := hokx.1.1; omega⟩
      subst hn0
      have hn255 : (n : Int) ≤ 255 := hokx.1.2
      simp only at b0 b1 b2
      clear a0 a1 a2 hmore hx hh hokx
      by_cases hin : n < out.length
      · obtain ⟨m0, hm0⟩ : ∃ m0, out[n]? = some m0 := ⟨_, List.getElem?_eq_getElem hin⟩
        obtain ⟨g, cap2, e0, hBg, hgl, c0, c1⟩ := ho.at hm0
        injection e0 with e00 e01 e02
        clear e01
        subst e00
        subst e02
        rw [i1] at hin
        have q0 : (wr.alloc (.cells #[.int .u8 (n : Int), .int .u8 mx.f0, .int .u32 mx.f1] 36)).cell? ⟨wr.heap.size, 0, none⟩ = some (.int .u8 (n : Int)) := cell_new rfl _ _ 0
        have q1 : (wr.alloc (.cells #[.int .u8 (n : Int), .int .u8 mx.f0, .int .u32 mx.f1] 36)).cell? ⟨wr.heap.size, 1, none⟩ = some (.int .u8 mx.f0) := cell_new rfl _ _ 1
        have q2 : (wr.alloc (.cells #[.int .u8 (n : Int), .int .u8 mx.f0, .int .u32 mx.f1] 36)).cell? ⟨wr.heap.size, 2, none⟩ = some (.int .u32 mx.f1) := cell_new rfl _ _ 2
        have hini : (n : Int) < (xs.length : Int) := by omega
        have hin2 : ¬ (xs.length : Int) ≤ (n : Int) := by omega
        obtain ⟨W, hW⟩ : ∃ W, W = wr.alloc (.cells #[.int .u8 (n : Int), .int .u8 mx.f0, .int .u32 mx.f1] 36) := ⟨_, rfl⟩
        have HW := Lib.hid hW
        have hc25 := Lib.hid (hear25 m0 mx HOK.out.2 ((n : Int) == self))
        have HH := Lib.hid (And.intro ho (And.intro hn (And.intro hb hs)))
        clear ho hn hb hs
        rw [← hW] at q0 q1 q2
        clear hW
        have Q0 := Lib.hid q0
        have Q1 := Lib.hid q1
        have Q2 := Lib.hid q2
        have HI1 := Lib.hid i1
        have HM0 := Lib.hid hm0
        have HI3 := Lib.hid i3
        clear q0 q1 q2 i1 hm0 i3 i4 i2
        go_wp2_with fail
        rw [← HW.out]
        obtain ⟨m, hm⟩ : ∃ m, m = hear1 m0 ((n : Int) == self) mx := ⟨_, rfl⟩
        rw [← hm] at hc25
        have HMM := Lib.hid hm
        clear hm
        have d0 : W.cell? ⟨g, n * 2, none⟩ = some (.int .u8 m0.f0) := by rw [HW.out]; exact (World.cell?_alloc_lt wr _ _ hgl).trans c0
        have d1 : W.cell? ⟨g, n * 2 + 1, none⟩ = some (.int .u32 m0.f1) := by rw [HW.out]; exact (World.cell?_alloc_lt wr _ _ hgl).trans c1
        have q0 := Q0.out
        have q1 := Q1.out
        have q2 := Q2.out
        have hWs : Hid (W.heap.size = wr.heap.size + 1) := Lib.hid (by rw [HW.out]; simp)
        have hw1 : wr.heap.size < W.heap.size := by rw [hWs.out]; exact Nat.lt_succ_self _
        have hw2 : g < W.heap.size := Nat.lt_trans hgl hw1
        clear c0 c1
        go_cut [12] (fun v wx => ∃ b, v = .pointer (some ⟨b, 0, none⟩) ∧ wr.heap.size < b ∧ wx.cell? ⟨b, 0, none⟩ = some (.int .u8 m.f0) ∧ wx.cell? ⟨b, 1, none⟩ = some (.int .u32 m.f1) ∧ Below (wr.heap.size + 1) W wx)
        case first =>
          have hw3 : g ≠ W.heap.size := Nat.ne_of_lt hw2
          have hw4 : wr.heap.size ≠ W.heap.size := Nat.ne_of_lt hw1
          go_region_held3 (fun w' => w'.cell? ⟨g, n * 2, none⟩ = some (.int .u8 m0.f0) ∧ w'.cell? ⟨g, n * 2 + 1, none⟩ = some (.int .u32 m0.f1) ∧ w'.cell? ⟨wr.heap.size, 0, none⟩ = some (.int .u8 (n : Int)) ∧ w'.cell? ⟨wr.heap.size, 1, none⟩ = some (.int .u8 mx.f0) ∧ w'.cell? ⟨wr.heap.size, 2, none⟩ = some (.int .u32 mx.f1))
            ((go_split_ands; (refine ⟨?_, ?_, ?_, ?_, ?_⟩ <;> first | exact cell_keep hb9 (by assumption) | exact alloc_keep (by assumption) | exact set2_far hw3.symm (by assumption) | exact set2_far hw4.symm (by assumption) | exact alloc_swap hw7 (by assumption) | exact alloc_swap hw8 (by assumption) | assumption)))
            (first | (go_at_call 25; refine (hc25.out _).mono ?_; rintro e w9 ⟨rfl, hb9⟩; first | (have hz : w9.heap[W.heap.size]? = some (.cells #[.int .u8 0, .int .u32 0] 33 (0, 0)) := (hb9.block _ (by simp)).trans (heap_alloc_new (World.drew W) _); have z0 := zero_two hz; have HZ := Lib.hid hz; clear hz; obtain ⟨z00, z01, z02, z03⟩ := z0) | (have hs9 : W.heap.size ≤ w9.heap.size := hb9.size; have hw5 : g ≠ w9.heap.size := Nat.ne_of_lt (Nat.lt_of_lt_of_le hw2 hs9); have hw6 : wr.heap.size ≠ w9.heap.size := Nat.ne_of_lt (Nat.lt_of_lt_of_le hw1 hs9); have hw7 : g < w9.heap.size := Nat.lt_of_lt_of_le hw2 hs9; have hw8 : wr.heap.size < w9.heap.size := Nat.lt_of_lt_of_le hw1 hs9)))
          · have hb10 : Below (wr.heap.size + 1) W w9 := by rw [← hWs.out]; exact ⟨hb9.os, hb9.tape, hb9.output, hb9.size, hb9.block⟩
            go_wp2
            go_meet
            exact ⟨_, rfl, hw8, cell_new rfl _ _ 0, cell_new rfl _ _ 1, hb10.alloc (by rw [← hWs.out]; exact hs9) _⟩
          · have hz := two_set HZ.out (u' := .int .u8 m.f0) (v' := .int .u32 m.f1)
            have hz2 := zero_two hz
            have hb10 : Below (wr.heap.size + 1) W w9 := by
              have h : Below (wr.heap.size + 1) W (W.alloc (.cells #[.int .u8 0, .int .u32 0] 33)) := (Below.refl _ _).alloc (by rw [hWs.out]; exact Nat.le_refl _) _
              exact h.trans (Below.mono (w := W.alloc (.cells #[.int .u8 0, .int .u32 0] 33)) ⟨hb9.os, hb9.tape, hb9.output, hb9.size, hb9.block⟩ (Nat.le_trans (Nat.le_of_eq hWs.out.symm) h.size))
            go_wp2
            go_meet
            exact ⟨_, rfl, hw1, hz2.1, hz2.2.1, (hb10.setCell (p := ⟨W.heap.size, 0, none⟩) (by show wr.heap.size + 1 ≤ W.heap.size; rw [hWs.out]; exact Nat.le_refl _) _).setCell (p := ⟨W.heap.size, 1, none⟩) (by show wr.heap.size + 1 ≤ W.heap.size; rw [hWs.out]; exact Nat.le_refl _) _⟩
        case rest =>
          obtain ⟨b, rfl, hbl, e0, e1, hbW⟩ := hcut
          have k0 := (hbW.cell (show g < wr.heap.size + 1 by omega)).trans d0
          have k1 := (hbW.cell (show g < wr.heap.size + 1 by omega)).trans d1
          have k2 := (hbW.cell (show wr.heap.size < wr.heap.size + 1 by omega)).trans q0
          have hball : Below wr.heap.size wr wc := by
            have h : Below wr.heap.size wr W := by rw [HW.out]; exact (Below.refl _ _).alloc (Nat.le_refl _) _
            exact h.trans (hbW.mono (Nat.le_succ _))
          have ho1 := own_below HH.out.1 hball
          have HO1 := Lib.hid ho1
          have HN1 := Lib.hid (own_below HH.out.2.1 hball)
          have HB1 := Lib.hid (HH.out.2.2.1.trans (hball.mono HH.out.2.2.1.size))
          have HS1 := Lib.hid (Nat.le_trans HH.out.2.2.2 hball.size)
          have heq := eqA33
          have hst : stepN self (out, ch) ⟨(n : Int), mx⟩ = if eq33 m m0 then (out, ch) else (out.set n m, ch ++ [⟨(n : Int), m⟩]) := by
            unfold stepN
            simp only [Int.toNat_natCast, HM0.out]
            rw [← HMM.out]
          have ho2 : MemO wc w.heap.size (.slice (some ⟨g, 0, none⟩) out.length cap1) out := by rw [HI1.out]; exact ho1
          have f0 := own_free (i := n * 2) ho2
          have f1 := own_free (i := n * 2 + 1) ho2
          have HO2 := Lib.hid ho2
          have HIN : Hid (n < out.length) := Lib.hid (by rw [HI1.out]; exact hin)
          have hgb : g ≠ b := Nat.ne_of_lt (Nat.lt_trans hgl hbl)
          have hgw : g ≠ wr.heap.size := Nat.ne_of_lt hgl
          have hwb : b < wc.heap.size := World.block_lt_of_cell? wc _ e0
          clear d0 d1 q0 q1 q2 hbW hc25 hw1 hw2 hball ho1 ho2 HH
          by_cases hsame : m = m0
          · have hst1 := HM.out.trans hst
            rw [eq33_iff.2 hsame, if_pos rfl] at hst1
            have HST := Lib.hid hst1
            subst hsame
            clear hst hst1
            go_wp2_with fail
            go_quiet (fail)
            go_wp2_with fail
            go_roundw
            case rel => exact ⟨k + 1, out, ch, by omega, by go_num, HST.out, HO1.out, HN1.out, below_drewN HB1.out nq, HS1.out⟩
            case measure => simp [intOf]; omega
          · have hst1 := HM.out.trans hst
            have hq := eq33_not.2 hsame
            rw [hq, if_neg (by decide)] at hst1
            have HST := Lib.hid hst1
            unfold eq33 at hq
            clear hst hst1 hsame
            obtain ⟨i0, hi0, hzz⟩ := Option.map_eq_some_iff.1 info36
            simp only [Prod.mk.injEq] at hzz
            obtain ⟨hz0, hz1, hz2⟩ := hzz
            obtain ⟨y, hy⟩ : ∃ y, xs[n]? = some y := ⟨_, List.getElem?_eq_getElem hin⟩
            obtain ⟨g', cap', e9, _, hgl1, _⟩ := HV.out.at hy
            injection e9 with e90 e91 e92
            clear e91 e92
            cases e90
            have HGL1 := Lib.hid hgl1
            have HBG := Lib.hid hBg
            have hchl : ch.length ≤ 1000 := i2'
            clear hy hgl1 hBg
            go_wp2_with fail
            go_quiet (fail)
            have hownN : (((wc.drewN nq).setCell ⟨g, n * 2, none⟩ (.int .u8 m.f0)).setCell ⟨g, n * 2 + 1, none⟩ (.int .u32 m.f1)).ownsRow w1.heap.size 36 3 u9 ch.length (newsC ch) :=
              ownsRow_setCell_below (ownsRow_setCell_below (w := wc.drewN nq) HN1.out HGL1.out _) HGL1.out _
            have hownM : MemO (((wc.drewN nq).setCell ⟨g, n * 2, none⟩ (.int .u8 m.f0)).setCell ⟨g, n * 2 + 1, none⟩ (.int .u32 m.f1)) w.heap.size (.slice (some ⟨g, 0, none⟩) out.length cap1) (out.set n m) :=
              MemO.set (w := wc.drewN nq) HO2.out HIN.out
            have hbs : Below w.heap.size w (((wc.drewN nq).setCell ⟨g, n * 2, none⟩ (.int .u8 m.f0)).setCell ⟨g, n * 2 + 1, none⟩ (.int .u32 m.f1)) :=
              ((below_drewN HB1.out nq).setCell (p := ⟨g, n * 2, none⟩) HBG.out _).setCell (p := ⟨g, n * 2 + 1, none⟩) HBG.out _
            have hss : wc.heap.size = (((wc.drewN nq).setCell ⟨g, n * 2, none⟩ (.int .u8 m.f0)).setCell ⟨g, n * 2 + 1, none⟩ (.int .u32 m.f1)).heap.size := by simp [World.setCell]
            have HOWNM := Lib.hid hownM
            have HBS := Lib.hid hbs
            have HSS := Lib.hid hss
            clear hownM hbs hss
            go_wp2_with (first
              | (at_builtin; refine wpList_append_own _ rfl _ _ 23 rfl w1.heap.size 36 i0 (.agg #[.int .u8 0, .int .u8 0, .int .u32 0]) 3 12 Try.underlying23 hi0 hz0 hz1 hz2 rfl (by decide) _ _ _ rfl (World.ownsRow.alloc hownN _) ⟨wc.heap.size, 0, none⟩ 1 1 (cells36 ⟨(n : Int), m⟩) rfl rfl ?c1 (newsC_one _) ?c3 ?c4 ?c5 ?_)
              | fail)
            case c1 =>
              intro j u hj
              rw [add_at, Nat.zero_add, cell_new HSS.out.symm]
              simpa [cells36] using hj
            case c3 => unfold maxLen; omega
            case c4 => omega
            case c5 => rw [size_alloc, ← HSS.out]; exact Nat.le_succ_of_le HS1.out
            intro v' w2 hown1 hg1 _
            have hM2 := own_grown (World.ownsRow.alloc HOWNM.out (.cells #[.int .u8 (n : Int), .int .u8 m.f0, .int .u32 m.f1] 36)) hg1 (fun q hq hr => by
              have h1 := (World.ownsRow.lt hownN q hr).1
              have h2 := HGL1.out
              have h3 : g = q := by simpa [Value.ownBlock] using hq
              omega)
            have hB2 : Below w.heap.size w w2 := (HBS.out.alloc (Nat.le_trans HB1.out.size (Nat.le_of_eq HSS.out)) _).grown hg1 (by rw [size_alloc, ← HSS.out]; exact Nat.le_succ_of_le HB1.out.size) (fun q hq => Nat.le_trans HB.out.size (World.ownsRow.lt hownN q hq).1)
            have hS2 : w1.heap.size ≤ w2.heap.size := Nat.le_trans HS1.out (Nat.le_trans (Nat.le_of_eq HSS.out) (Nat.le_trans (by rw [size_alloc]; exact Nat.le_succ _) hg1.size))
            have hM3 : MemO w2 w.heap.size (.slice (some ⟨g, 0, none⟩) xs.length cap1) (out.set n m) := by
              unfold MemO
              rw [← HI1.out]
              exact hM2
            have hN3 : NewsO w2 w1.heap.size v' (ch ++ [⟨(n : Int), m⟩]) := by
              unfold NewsO
              rw [List.length_append, newsC_snoc]
              exact hown1
            have HM3 := Lib.hid hM3
            have HN3 := Lib.hid hN3
            have HB3 := Lib.hid hB2
            have HS3 := Lib.hid hS2
            clear hM2 hB2 hS2 hM3 hN3 hown1 hg1 hownN e0 e1 k0 k1 k2 f0 f1
            go_wp2_with fail
            go_roundw
            case rel => exact ⟨k + 1, out.set n m, ch ++ [⟨(n : Int), m⟩], by omega, by go_num, HST.out, HM3.out, HN3.out, HB3.out, HS3.out⟩
            case measure => simp [intOf]; omega
      · rw [i1] at hin
        have hini : ¬ (n : Int) < (xs.length : Int) := by omega
        have hin2 : (xs.length : Int) ≤ (n : Int) := by omega
        have hst : stepN self (out, ch) ⟨(n : Int), mx⟩ = (out, ch) := by
          unfold stepN
          have : out[n]? = none := List.getElem?_eq_none (by omega)
          simp only [Int.toNat_natCast, this]
        have HST := Lib.hid (HM.out.trans hst)
        have hba : Below wr.heap.size wr (wr.alloc (.cells #[.int .u8 (n : Int), .int .u8 mx.f0, .int .u32 mx.f1] 36)) := (Below.refl _ _).alloc (Nat.le_refl _) _
        have HO1 := Lib.hid (own_below ho hba)
        have HN1 := Lib.hid (own_below hn hba)
        have HB1 := Lib.hid (hb.trans (hba.mono hb.size))
        have HS1 := Lib.hid (Nat.le_trans hs hba.size)
        clear ho hn hb hs hba hst
        go_wp2_with fail
        go_roundw
        case rel => exact ⟨k + 1, out, ch, by omega, by go_num, HST.out, HO1.out, HN1.out, HB1.out, HS1.out⟩
        case measure => simp [intOf]; omega
    · obtain rfl : k = l.length := by omega
      rw [List.take_of_length_le (Nat.le_refl _)] at hh
      have HH := Lib.hid hh
      have HO1 := Lib.hid ho
      have HN1 := Lib.hid hn
      have HB1 := Lib.hid hb
      have HBS := Lib.hid HB.out.size
      clear ho hn hb hs hh
      go_wp2_with fail
      go_ret2
      refine ⟨_, _, rfl, ?_, ?_, HB1.out⟩
      · unfold heard; rw [HH.out]; exact HO1.out
      · unfold heard; rw [HH.out]; exact own_base HN1.out HBS.out
end Go.Proofs.Ythpfknigommheaa
