/- The contract of the reference's Node. Conditions: the array has numbers of 64 bits. -/
import Derived.Test.YtibgfmkgojeefaaX
import Derived.Deep.AppendLies
import Derived.Deep.RegionLaw
namespace Go.Proofs.Ytibgfmkgojeefaa
open Go.RowKit Go.Maps Go.WideMaps Go.ChangeShapes Go.WideShapes Go.Deep

/-- c nodes beside one another, from node s on. -/
def rowFrom (m : Nat → Nat) (s c : Nat) : List Value := (List.range c).map (fun j => Value.int .u64 (nd m (s + j)))
theorem rowFrom_more (m : Nat → Nat) (s c : Nat) : rowFrom m s (c + 1) = rowFrom m s c ++ [.int .u64 (nd m (s + c))] := by simp [rowFrom, List.range_succ]
theorem rowFrom_len (m : Nat → Nat) (s c : Nat) : (rowFrom m s c).length = c := by simp [rowFrom]
theorem rowFrom_get {m : Nat → Nat} {s c j : Nat} (h : j < c) : (rowFrom m s c)[j]? = some (.int .u64 (nd m (s + j))) := by simp [rowFrom, h]
/-- The value is a row of its own: c nodes from s on. -/
def NRow (w : World) (B : Nat) (m : Nat → Nat) (v : Value) (s c : Nat) : Prop := w.ownsRow B 26 1 v c (rowFrom m s c)
theorem NRow.cells {w : World} {B : Nat} {m : Nat → Nat} {v : Value} {s c : Nat} (h : NRow w B m v s c) (hc : 0 < c) : ∃ g cap, v = .slice (some ⟨g, 0, none⟩) c cap ∧ B ≤ g ∧ ∀ j, j < c → w.cell? ⟨g, j, none⟩ = some (.int .u64 (nd m (s + j))) := by
  rcases h.2 with ⟨_, h0⟩ | ⟨g, cap, cur, rfl, h1, h2, h3, h4, h5, h6⟩
  · omega
  · refine ⟨g, cap, rfl, h1, fun j hj => ?_⟩
    rw [cell_of_row w g j _ _ _ h2]
    have : (cur.toList.take (c * 1))[j]? = some (.int .u64 (nd m (s + j))) := by rw [h6]; exact rowFrom_get hj
    rw [List.getElem?_take, if_pos (by omega)] at this
    rw [← this]
    simp
def Node20Post (w : World) (x : Nat) (e : Ending) (w' : World) : Prop := e = .returned (.int .u64 x) ∧ Below w.heap.size w w'

theorem NRow.lower {w : World} {B B' : Nat} {m : Nat → Nat} {v : Value} {s c : Nat} (h : NRow w B m v s c) (hB : B' ≤ B) : NRow w B' m v s c := own_base h hB
def slen : Value → Nat
  | .slice _ n _ => n
  | _ => 0
theorem NRow.slen {w : World} {B : Nat} {m : Nat → Nat} {v : Value} {s c : Nat} (h : NRow w B m v s c) : slen v = c := by
  rcases h.2 with ⟨rfl, h0⟩ | ⟨g, cap, cur, rfl, _⟩
  · rw [h0]; rfl
  · rfl
theorem half_pow {c : Nat} (h : ∃ e, c = 2 ^ e) (h1 : 1 < c) : ∃ d, c = 2 * d ∧ ∃ e, d = 2 ^ e := by
  obtain ⟨e, rfl⟩ := h
  cases e with
  | zero => simp at h1
  | succ e => exact ⟨2 ^ e, by rw [Nat.pow_succ, Nat.mul_comm], e, rfl⟩
theorem two26_same (x y : Nat) (hx : x < 2 ^ 64) (hy : y < 2 ^ 64) (r : Nat) (hr : Mx.two x y = r) (w : World) :
    Calls Try.prog 26 #[.int .u64 x, .int .u64 y] w fun e w' => e = .returned (.int .u64 r) ∧ w' = w := by
  subst hr
  exact (two26_any x y hx hy w).mono fun e w' h => ⟨h.1, h.2.symm⟩

set_option maxRecDepth 100000 in
set_option maxHeartbeats 2000000 in
theorem node20_in (m : Nat → Nat) (hm : ∀ j, m j < 2 ^ 64) (l i P n : Nat) (hl : l ≤ 6) (hP : 2 ^ l = P) (hn : 64 / P = n) (hPn : P * n = 64) (hi : i < P) (he : ∃ e, n = 2 ^ e) (w : World) :
    Calls Try.prog 20 #[.agg (arr m), .int .i64 l, .int .i64 i] w fun e w' => Node20Post w (nd m (P + i)) e w' := by
  obtain ⟨i0, hi0, hz0, hz1, hz2⟩ := info_parts info26
  have hP64 : P ≤ 64 := by rw [← hP]; exact Nat.le_trans (Nat.pow_le_pow_right (by decide) hl) (by decide)
  have hn64 : n ≤ 64 := by rw [← hn]; exact Nat.div_le_self _ _
  have h1 : ¬ (6 : Int) < l := by omega
  have h2 : ¬ (l : Int) < 0 := by omega
  have h3 : ¬ (i : Int) < 0 := by omega
  have hw : wrap64 ((2 : Int) ^ l) = (P : Int) := by
    rw [show ((2 : Int) ^ l) = ((P : Nat) : Int) by rw [← hP]; simp]
    exact IntWalk.wrap64_in (P : Int) ⟨by clear hm he; omega, by clear hm he; omega⟩
  have hs : (64 : Int) / 2 ^ l = (n : Int) := by
    rw [show ((2 : Int) ^ l) = ((P : Nat) : Int) by rw [← hP]; simp]
    rw [← hn]; simp
  have h4 : ¬ (P : Int) ≤ (i : Int) := Int.not_le.2 (by exact_mod_cast hi)
  obtain ⟨q, hq⟩ : ∃ q, q = i * n := ⟨_, rfl⟩
  have hqn : q + n ≤ 64 := by
    have h : (i + 1) * n ≤ P * n := Nat.mul_le_mul_right n hi
    rw [Nat.add_mul, Nat.one_mul, hPn] at h
    rw [hq]; exact h
  have hmul : (i : Int) * (n : Int) = (q : Int) := by rw [hq]; simp
  have HP := Lib.hid hP
  have HN := Lib.hid hPn
  have HE := Lib.hid he
  have HQ := Lib.hid hq
  have HM := Lib.hid hm
  clear hP hn hPn he hq hm
  go_enter Try.func20, Try.ntmps20
  go_wp2_with fail
  have hown0 : ((w.alloc (.cells (arr m) 27)).alloc (.cells #[] 26)).ownsRow (w.heap.size + 1) 26 1 (.slice (some ⟨w.heap.size + 1, 0, none⟩) 0 0) 0 [] := by
    have h := World.ownsRow_lit (w.alloc (.cells (arr m) 27)) (e := 26) (size := 1) (base := w.heap.size + 1) #[] 0 (by rw [st_size]; omega) (Nat.zero_le _) rfl
    rw [st_size] at h
    exact h
  have ha0 : ArrAt (w.alloc (.cells (arr m) 27)) w.heap.size m := ⟨heap_alloc_new _ _⟩
  have ha1 : ArrAt ((w.alloc (.cells (arr m) 27)).alloc (.cells #[] 26)) w.heap.size m := ⟨by
    rw [Below.heap_alloc _ _ _ (by rw [st_size]; omega)]; exact ha0.blk⟩
  have hbl : Below w.heap.size w ((w.alloc (.cells (arr m) 27)).alloc (.cells #[] 26)) := ((Below.refl _ _).alloc (Nat.le_refl _) _).alloc (by rw [st_size]; omega) _
  have HA := Lib.hid ha1
  have HO0 := Lib.hid hown0
  have HBL := Lib.hid hbl
  have HSZ : Hid (w.heap.size + 2 ≤ ((w.alloc (.cells (arr m) 27)).alloc (.cells #[] 26)).heap.size) := Lib.hid (by rw [st_size, st_size]; omega)
  clear ha0 ha1 hown0 hbl
  obtain ⟨w3, hw3⟩ : ∃ w3, w3 = ((w.alloc (.cells (arr m) 27)).alloc (.cells #[] 26)) := ⟨_, rfl⟩
  rw [← hw3] at HA HO0 HBL HSZ ⊢
  clear hw3
  go_loopw [8, 9] (fun v i wr => ∃ k : Nat, k ≤ n ∧ i = .int .i64 k ∧ NRow wr (w.heap.size + 1) m v (64 + q) k ∧ Below (w.heap.size + 1) w3 wr) (fun _ i _ => n - (intOf i).toNat)
  case atStart => exact ⟨0, Nat.zero_le _, rfl, HO0.out, Below.refl _ _⟩
  case round =>
    obtain ⟨k, hk, rfl, hown, hb⟩ := hrel
    by_cases hlt : k < n
    · have c1 := ArrAt.cell (w := wr) ⟨(hb.block _ (by omega)).trans HA.out.blk⟩ (show q + k < 64 by omega)
      have e1 : (0 : Int) ≤ (q : Int) + (k : Int) := by omega
      have e2 : (q : Int) + (k : Int) < 64 := by omega
      have e3 : ((q : Int) + (k : Int)).toNat = q + k := by omega
      have hkn : (k : Int) < (n : Int) := by omega
      have hsz : w.heap.size + 1 ≤ wr.heap.size := Nat.le_trans (by have := HSZ.out; omega) hb.size
      go_wp2_with (first
          | (at_builtin; refine wpList_append_own _ rfl _ _ 45 rfl (w.heap.size + 1) 26 i0 (.int .u64 0) 1 8 Try.underlying45 hi0 hz0 hz1 hz2 rfl (by decide) _ _ _ rfl (World.ownsRow.alloc hown _) ⟨wr.heap.size, 0, none⟩ 1 1 [.int .u64 (m (q + k))] rfl rfl ?c1 ?c2 ?c3 ?c4 ?c5 ?_)
          | fail)
      case c1 =>
        intro j u hj
        match j, hj with
        | 0, hj => simp at hj; subst hj; simp only [Addr.add]; exact cell_new rfl _ _ 0
      case c2 => intro u hu; simp at hu; subst hu; rfl
      case c3 => unfold maxLen; omega
      case c4 => omega
      case c5 => simp; omega
      intro v' w1 hown1 hg1 _
      have hb1 : Below (w.heap.size + 1) w3 w1 := (hb.alloc hsz _).grown hg1 (by simp; omega) (fun q hq => (World.ownsRow.lt hown q hq).1)
      have hown2 : NRow w1 (w.heap.size + 1) m v' (64 + q) (k + 1) := by
        unfold NRow
        rw [rowFrom_more, Nat.add_assoc, nd_leaf]
        exact hown1
      have HO := Lib.hid hown2
      have HB := Lib.hid hb1
      clear hown hown1 hown2 hg1 hb hb1 c1
      go_wp2_with fail
      go_roundw
      case rel => exact ⟨k + 1, by omega, by go_num, HO.out, HB.out⟩
      case measure => simp [intOf]; omega
    · obtain rfl : k = n := by omega
      have HO := Lib.hid hown
      have HB := Lib.hid hb
      have HK := Lib.hid hk
      clear hown hb hlt
      have hT : 64 + q = (P + i) * k := by rw [HQ.out, Nat.add_mul, HN.out]
      have HTT := Lib.hid hT
      clear hT
      go_wp2_with fail
      obtain ⟨wl, hwl⟩ : ∃ wl, wl = wr := ⟨_, rfl⟩
      rw [← hwl] at HO HB ⊢
      clear hwl
      go_loopw [8] (fun v wr => ∃ c s : Nat, 1 ≤ c ∧ c ≤ 64 ∧ s = (P + i) * c ∧ s + c ≤ 128 ∧ (∃ e, c = 2 ^ e) ∧ NRow wr (w.heap.size + 1) m v s c ∧ Below (w.heap.size + 1) w3 wr) (fun v _ => slen v)
      case atStart =>
        have hk1 : 1 ≤ k := by
          rcases Nat.eq_zero_or_pos k with h | h
          · have := HN.out; rw [h] at this; omega
          · exact h
        exact ⟨k, 64 + q, hk1, hn64, HTT.out, by omega, HE.out, HO.out, HB.out⟩
      case round =>
        obtain ⟨c, s, hc1, hc64, hs, hsc, he, hown, hb⟩ := hrel
        clear HO HB
        obtain ⟨g, cap, rfl, hBg, hcell⟩ := hown.cells hc1
        obtain ⟨wo, hwo⟩ : ∃ wo, wo = wr := ⟨_, rfl⟩
        rw [← hwo] at hown hb hcell ⊢
        clear hwo
        by_cases hc : 1 < c
        · obtain ⟨d, rfl, hde⟩ := half_pow he hc
          have hown0 : (wo.alloc (.cells #[] 26)).ownsRow wo.heap.size 26 1 (.slice (some ⟨wo.heap.size, 0, none⟩) 0 0) 0 [] := World.ownsRow_lit wo (e := 26) (size := 1) (base := wo.heap.size) #[] 0 (Nat.le_refl _) (Nat.zero_le _) rfl
          have HO0 := Lib.hid hown0
          have HC := Lib.hid hcell
          have HB := Lib.hid hb
          have HE2 := Lib.hid hde
          have HS := Lib.hid hs
          have hci : (1 : Int) < 2 * (d : Int) := by omega
          clear hown hown0 hcell hb he hde hs HE
          go_wp2_with fail
          obtain ⟨T, hT⟩ : ∃ T, T = P + i := ⟨_, rfl⟩
          rw [← hT] at HS
          have hTd : s = 2 * (T * d) := by rw [HS.out, ← Nat.mul_assoc, Nat.mul_comm T 2, Nat.mul_assoc]
          obtain ⟨S, hS⟩ : ∃ S, S = T * d := ⟨_, rfl⟩
          rw [← hS] at hTd
          have hS1 : 1 ≤ S := by
            rw [hS]
            have : 1 ≤ T := by have := Lib.hid hT; omega
            exact Nat.mul_pos this (by omega)
          have HSS := Lib.hid hS
          have HTT2 := Lib.hid hT
          clear hS hT
          subst hTd
          go_loopw [10, 11] (fun v j wr => ∃ k : Nat, k ≤ d ∧ j = .int .i64 (2 * (k : Int)) ∧ NRow wr wo.heap.size m v S k ∧ Below wo.heap.size wo wr) (fun _ j _ => 2 * d - (intOf j).toNat)
          case atStart => exact ⟨0, Nat.zero_le _, rfl, HO0.out, (Below.refl _ _).alloc (Nat.le_refl _) _⟩
          case round =>
            obtain ⟨k2, hk2, rfl, hown, hb⟩ := hrel
            by_cases hlt : k2 < d
            · have d0 := (hb.cell (World.block_lt_of_cell? wo _ (HC.out (2 * k2) (by omega)))).trans (HC.out (2 * k2) (by omega))
              have d1 := (hb.cell (World.block_lt_of_cell? wo _ (HC.out (2 * k2 + 1) (by omega)))).trans (HC.out (2 * k2 + 1) (by omega))
              have hv := nd_up m (i := S + k2) (by omega) (by omega)
              rw [show 2 * (S + k2) = 2 * S + 2 * k2 by omega] at hv
              have l0 := nd_lt m HM.out (2 * S + 2 * k2)
              have l1 := nd_lt m HM.out (2 * S + 2 * k2 + 1)
              obtain ⟨x0, hx0⟩ : ∃ x0, x0 = nd m (2 * S + 2 * k2) := ⟨_, rfl⟩
              obtain ⟨x1, hx1⟩ : ∃ x1, x1 = nd m (2 * S + 2 * k2 + 1) := ⟨_, rfl⟩
              rw [← hx0] at d0 l0 hv
              rw [← Nat.add_assoc, ← hx1] at d1
              rw [← hx1] at l1 hv
              have HTWO := Lib.hid (two26_same x0 x1 l0 l1 (nd m (S + k2)) hv.symm wr.drew)
              have e1 : (2 * (k2 : Int)) < 2 * (d : Int) := by omega
              have e2 : (2 * (k2 : Int) + 1) < 2 * (d : Int) := by omega
              have e3 : (0 : Int) ≤ 2 * (k2 : Int) := by omega
              have e4 : (0 : Int) ≤ 2 * (k2 : Int) + 1 := by omega
              have e5 : (2 * (k2 : Int)).toNat = 2 * k2 := by omega
              have e6 : (2 * (k2 : Int) + 1).toNat = 2 * k2 + 1 := by omega
              have e7 : IntKind.i64.wrap (2 * (k2 : Int) + 1) = 2 * (k2 : Int) + 1 := IntWalk.i64_in _ ⟨by omega, by omega⟩
              clear hx0 hx1 hv l0 l1
              go_wp2_with fail
              have hownd : wr.drew.ownsRow wo.heap.size 26 1 u10 k2 (rowFrom m S k2) := hown
              have HB4 := Lib.hid hb.drew
              have hsz := HB4.out.size
              have hsz2 : wo.heap.size ≤ wr.heap.size := hsz
              clear hown hb
              go_region_law (first
                | (go_simp; go_at_call 26; refine (HTWO.out).mono ?_; rintro e w9 ⟨rfl, rfl⟩)
                | (refine step_append_lies _ rfl (.tmp 56) (.tmp 67) 45 rfl wo.heap.size 26 i0 (.int .u64 0) 1 8 Try.underlying45 hi0 hz0 hz1 hz2 rfl (by decide) u10 k2 (rowFrom m S k2) (by simp [Act.eval]) (by exact World.ownsRow.alloc hownd _) ⟨wr.heap.size, 0, none⟩ 1 1 [.int .u64 (nd m (S + k2))] (by simp [Act.eval]) rfl (World.news_of_block (cs := #[.int .u64 (nd m (S + k2))]) (t := 26) (fr := (0, 0)) (by exact heap_alloc_new wr.drew _)) (by intro u hu; simp at hu; subst hu; rfl) (by decide) (by unfold maxLen; omega) (by omega) (by simp; omega) _ rfl ?_
                   intro g1 cap1 w1 hown1 hg1 _ _))
              all_goals
                have hb1 : Below wo.heap.size wo w1 := (HB4.out.alloc hsz _).grown hg1 (by simp; omega) (fun q hq => (World.ownsRow.lt hownd q hq).1)
                have hown2 : NRow w1 wo.heap.size m (.slice (some ⟨g1, 0, none⟩) (k2 + 1) cap1) S (k2 + 1) := by
                  unfold NRow
                  rw [rowFrom_more]
                  exact hown1
                have HO := Lib.hid hown2
                have HB5 := Lib.hid hb1
                have e8 : IntKind.i64.wrap (2 * (k2 : Int) + 2) = 2 * ((k2 + 1 : Nat) : Int) := by rw [IntWalk.i64_in _ ⟨by omega, by omega⟩]; omega
                clear hownd hown1 hown2 hg1 hb1 HB4 d0 d1
                go_wp2_with fail
                go_roundw
              case rel => exact ⟨k2 + 1, by omega, by go_num, HO.out, HB5.out⟩
              case measure => simp [intOf]; omega
              case rel => exact ⟨k2 + 1, by omega, by go_num, HO.out, HB5.out⟩
              case measure => simp [intOf]; omega
            · obtain rfl : k2 = d := by omega
              have HO := Lib.hid hown
              have HB5 := Lib.hid hb
              have hci2 : ¬ (2 * (k2 : Int)) < 2 * (k2 : Int) := by omega
              clear hown hb
              go_wp2_with fail
              refine ⟨⟨k2, S, by omega, by omega, by rw [HSS.out, ← HTT2.out], by omega, HE2.out, NRow.lower HO.out ?_, HB.out.trans (HB5.out.mono ?_)⟩, ?_⟩
              · exact Nat.le_trans (by have := HSZ.out; omega) HB.out.size
              · exact Nat.le_trans (by have := HSZ.out; omega) HB.out.size
              · rw [NRow.slen HO.out]; show k2 < 2 * k2; omega
        · obtain rfl : c = 1 := by omega
          have c0 := hcell 0 (by omega)
          rw [hs, Nat.mul_one] at c0
          have HB := Lib.hid hb
          clear hown hcell hb hs
          go_wp2_with fail
          go_ret
          exact ⟨rfl, HBL.out.trans (HB.out.mono (Nat.le_succ _))⟩
theorem node20_out (m : Nat → Nat) (level i : Int) (h : ¬ (0 ≤ level ∧ level ≤ 6 ∧ 0 ≤ i ∧ i < 2 ^ level.toNat)) (w : World) :
    Calls Try.prog 20 #[.agg (arr m), .int .i64 level, .int .i64 i] w fun e w' => Node20Post w 0 e w' := by
  have hbl : Below w.heap.size w (w.alloc (.cells (arr m) 27)) := (Below.refl _ _).alloc (Nat.le_refl _) _
  have HB := Lib.hid hbl
  clear hbl
  by_cases h0 : level < 0
  · clear h
    go_enter Try.func20, Try.ntmps20
    go_wp2_with fail
    go_ret
    exact ⟨rfl, HB.out⟩
  by_cases h1 : 6 < level
  · clear h
    go_enter Try.func20, Try.ntmps20
    go_wp2_with fail
    go_ret
    exact ⟨rfl, HB.out⟩
  by_cases h2 : i < 0
  · clear h
    go_enter Try.func20, Try.ntmps20
    go_wp2_with fail
    go_ret
    exact ⟨rfl, HB.out⟩
  obtain ⟨l, rfl⟩ := Int.eq_ofNat_of_zero_le (show 0 ≤ level by omega)
  have h3 : (2 : Int) ^ l ≤ i := by
    rw [Int.toNat_natCast] at h
    exact Int.not_lt.1 (fun hh => h ⟨by omega, by omega, by omega, hh⟩)
  have hl : l ≤ 6 := by omega
  obtain ⟨P, hP⟩ : ∃ P, 2 ^ l = P := ⟨_, rfl⟩
  have hP64 : P ≤ 64 := by rw [← hP]; exact Nat.le_trans (Nat.pow_le_pow_right (by decide) hl) (by decide)
  have e : ((2 : Int) ^ l) = ((P : Nat) : Int) := by rw [← hP]; simp
  rw [e] at h3
  have hw : wrap64 ((2 : Int) ^ l) = (P : Int) := by
    rw [e]
    exact IntWalk.wrap64_in (P : Int) ⟨by clear h; omega, by clear h; omega⟩
  have hd : ¬ i < (P : Int) := Int.not_lt.2 h3
  clear h hP e
  go_enter Try.func20, Try.ntmps20
  go_wp2_with fail
  go_ret
  exact ⟨rfl, HB.out⟩
/-- What the reference's Node answers, in or out of range. -/
theorem node20_any (m : Nat → Nat) (hm : ∀ j, m j < 2 ^ 64) (level i : Int) (w : World) :
    Calls Try.prog 20 #[.agg (arr m), .int .i64 level, .int .i64 i] w fun e w' => Node20Post w (nodeVal m level i) e w' := by
  by_cases hr : 0 ≤ level ∧ level ≤ 6 ∧ 0 ≤ i ∧ i < 2 ^ level.toNat
  · rw [nodeVal_yes hr]
    obtain ⟨l, rfl⟩ := Int.eq_ofNat_of_zero_le hr.1
    obtain ⟨j, rfl⟩ := Int.eq_ofNat_of_zero_le hr.2.2.1
    rw [Int.toNat_natCast, Int.toNat_natCast]
    have hj : j < 2 ^ l := by have := hr.2.2.2; rw [Int.toNat_natCast] at this; exact_mod_cast this
    have hl : l ≤ 6 := by have := hr.2.1; omega
    have key : ∀ l, l ≤ 6 → 64 / 2 ^ l = 2 ^ (6 - l) ∧ 2 ^ l * 2 ^ (6 - l) = 64 := by decide
    obtain ⟨k1, k2⟩ := key l hl
    exact node20_in m hm l j (2 ^ l) (2 ^ (6 - l)) hl rfl k1 k2 hj ⟨_, rfl⟩ w
  · rw [nodeVal_no hr]
    exact node20_out m level i hr w
end Go.Proofs.Ytibgfmkgojeefaa
