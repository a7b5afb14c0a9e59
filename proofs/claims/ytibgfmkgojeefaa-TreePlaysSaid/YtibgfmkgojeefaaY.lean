/- The contract of the reference's Walk. Conditions: the arrays have numbers of 64 bits. -/
import Derived.Test.YtibgfmkgojeefaaW
namespace Go.Proofs.Ytibgfmkgojeefaa
open Go.RowKit Go.Maps Go.WideMaps Go.ChangeShapes Go.WideShapes Go.Deep

def Walk14Post (w : World) (xs : List Nat) (n : Nat) (e : Ending) (w' : World) : Prop :=
  ∃ g cap, e = .returned (.tuple #[.slice (some ⟨g, 0, none⟩) xs.length cap, .int .i64 n]) ∧ w'.ownsRow w.heap.size 3 1 (.slice (some ⟨g, 0, none⟩) xs.length cap) xs.length (xs.map (fun k : Nat => Value.int .i64 k)) ∧ Below w.heap.size w w'
theorem node20_at (m : Nat → Nat) (hm : ∀ j, m j < 2 ^ 64) (l i T : Nat) (hl : l ≤ 6) (hi : i < 2 ^ l) (hT : 2 ^ l + i = T) (w : World) :
    Calls Try.prog 20 #[.agg (arr m), .int .i64 l, .int .i64 i] w fun e w' => Node20Post w (nd m T) e w' := by
  subst hT
  have key : ∀ l, l ≤ 6 → 64 / 2 ^ l = 2 ^ (6 - l) ∧ 2 ^ l * 2 ^ (6 - l) = 64 := by decide
  obtain ⟨k1, k2⟩ := key l hl
  exact node20_in m hm l i (2 ^ l) (2 ^ (6 - l)) hl rfl k1 k2 hi ⟨_, rfl⟩ w

theorem own_below {w w' : World} {B e size n : Nat} {v : Value} {xs : List Value} (h : w.ownsRow B e size v n xs) (hb : Below w.heap.size w w') : w'.ownsRow B e size v n xs := by
  refine ⟨h.1, ?_⟩
  rcases h.2 with h1 | ⟨g, cap, cur, a, b, c, d⟩
  · exact .inl h1
  · exact .inr ⟨g, cap, cur, a, b, (hb.block g (lt_of_block c)).trans c, d⟩
theorem two_arrays (a b : Nat → Nat) (w : World) : ArrAt ((w.alloc (.cells (arr a) 27)).alloc (.cells (arr b) 27)) w.heap.size a ∧ ArrAt ((w.alloc (.cells (arr a) 27)).alloc (.cells (arr b) 27)) (w.heap.size + 1) b ∧
    Below w.heap.size w ((w.alloc (.cells (arr a) 27)).alloc (.cells (arr b) 27)) ∧ w.heap.size + 2 = ((w.alloc (.cells (arr a) 27)).alloc (.cells (arr b) 27)).heap.size := by
  refine ⟨⟨?_⟩, ⟨?_⟩, ((Below.refl _ _).alloc (Nat.le_refl _) _).alloc (by rw [st_size]; omega) _, by rw [st_size, st_size]⟩
  · rw [Below.heap_alloc _ _ _ (by rw [st_size]; omega)]; exact heap_alloc_new _ _
  · have h := heap_alloc_new (w.alloc (.cells (arr a) 27)) (.cells (arr b) 27)
    rw [st_size] at h
    exact h
theorem ArrAt.drew {w : World} {b : Nat} {m : Nat → Nat} (h : ArrAt w b m) : ArrAt w.drew b m := ⟨h.blk⟩
theorem step_load_row {ops : Array Oper} {o : Oper} {a : Act} {w : World} {K : Act → World → Prop} {Q : Exit → Act → World → Prop} {E : Prop} (hgd : o.guard = none) (x : Operand) (ho : o.op = .load 27 x)
    (g : Nat) (hx : a.eval x = .pointer (some ⟨g, 0, none⟩)) (m : Nat → Nat) (hg : ArrAt w g m)
    (h : K (a.put o.dst (.agg (arr m))) w) : if Region.wanted o (yielded ops a.tmps) = true then Oper.wp Try.prog o a w K Q else E := by
  have hw : Region.wanted o (yielded ops a.tmps) = true := by simp [Region.wanted, hgd]
  rw [if_pos hw]
  exact wp_load_row 27 x ho g hx 27 (arr m) (0, 0) _ hg.blk Try.underlying27 rfl (info27 m) h
theorem step_call {ops : Array Oper} {o : Oper} {a : Act} {w : World} {K : Act → World → Prop} {Q : Exit → Act → World → Prop} {E : Prop} (hgd : o.guard = none)
    (h : Oper.wp Try.prog o a w K Q) : if Region.wanted o (yielded ops a.tmps) = true then Oper.wp Try.prog o a w K Q else E := by
  have hw : Region.wanted o (yielded ops a.tmps) = true := by simp [Region.wanted, hgd]
  rw [if_pos hw]
  exact h
set_option maxRecDepth 100000 in
set_option maxHeartbeats 8000000 in
theorem walk14_one (a b : Nat → Nat) (l i : Nat) (x y : Nat) (xs : List Nat) (n : Nat) (hl : l ≤ 6) (hi : i < 64) (w : World)
    (NA : Hid (∀ w, Calls Try.prog 20 #[.agg (arr a), .int .i64 l, .int .i64 i] w fun e w' => Node20Post w x e w'))
    (NB : Hid (∀ w, Calls Try.prog 20 #[.agg (arr b), .int .i64 l, .int .i64 i] w fun e w' => Node20Post w y e w'))
    (H1 : Hid (x = y → xs = [] ∧ n = 1)) (H2 : Hid (x ≠ y → l = 6 → xs = [i] ∧ n = 1))
    (H3 : Hid (x ≠ y → l < 6 → ∃ xs1 n1 xs2 n2, xs = xs1 ++ xs2 ∧ n = 1 + n1 + n2 ∧ xs1.length + xs2.length ≤ 64 ∧ n ≤ 127 ∧
      (∀ w, Calls Try.prog 14 #[.agg (arr a), .agg (arr b), .int .i64 ((l : Int) + 1), .int .i64 (2 * (i : Int))] w fun e w' => Walk14Post w xs1 n1 e w') ∧
      (∀ w, Calls Try.prog 14 #[.agg (arr a), .agg (arr b), .int .i64 ((l : Int) + 1), .int .i64 (2 * (i : Int) + 1)] w fun e w' => Walk14Post w xs2 n2 e w'))) :
    Calls Try.prog 14 #[.agg (arr a), .agg (arr b), .int .i64 l, .int .i64 i] w fun e w' => Walk14Post w xs n e w' := by
  go_enter Try.func14, Try.ntmps14
  go_wp2_with fail
  obtain ⟨k1, k2, k3, k4⟩ := two_arrays a b w
  obtain ⟨w0, hw0⟩ : ∃ w0, w0 = ((w.alloc (.cells (arr a) 27)).alloc (.cells (arr b) 27)) := ⟨_, rfl⟩
  rw [← hw0] at k1 k2 k3 k4 ⊢
  clear hw0
  have K1 := Lib.hid k1
  have K2 := Lib.hid k2
  have K3 := Lib.hid k3
  have K4 := Lib.hid k4
  clear k1 k2 k3 k4
  go_cut [22] (fun v wx => v = .bool ((x : Int) == (y : Int)) ∧ Below w0.heap.size w0 wx)
  case first =>
    refine wp_region_any (by kernel_rfl) ?_
    change wpAny _ _ _ _ _ _ _ (World.drew _)
    refine wpAny_take (i := 1) (v := ?v1) rfl (by kernel_rfl) (by kernel_rfl) (by kernel_rfl) (fun _ _ _ h => h) (Or.inl ⟨by rfl, ?y1⟩) ?_
    case y1 => intro w; go_simp; with_reducible rfl
    refine wpAny_take (i := 2) (v := ?v2) rfl (by kernel_rfl) (by kernel_rfl) (by kernel_rfl) (fun _ _ _ h => h) (Or.inl ⟨by rfl, ?y2⟩) ?_
    case y2 => intro w; go_simp; with_reducible rfl
    refine wpAny_take (i := 5) (v := ?v5) rfl (by kernel_rfl) (by kernel_rfl) (by kernel_rfl) (fun _ _ _ h => h) (Or.inl ⟨by rfl, ?y5⟩) ?_
    case y5 => intro w; go_simp; with_reducible rfl
    refine wpAny_take (i := 6) (v := ?v6) rfl (by kernel_rfl) (by kernel_rfl) (by kernel_rfl) (fun _ _ _ h => h) (Or.inl ⟨by rfl, ?y6⟩) ?_
    case y6 => intro w; go_simp; with_reducible rfl
    refine wpAny_ready (rs := [0, 4]) (by kernel_rfl) (by simp) ?_
    refine AllReady.cons rfl (fun K hK => ?_) ?_
    · refine step_load_row rfl (.tmp 4) rfl (w.heap.size) (by simp [Act.eval, Act.put]) a (K1.out.drew) ?_
      refine hK _ _ ?_
      clear hK K
      refine wpAny_ready (rs := [3, 4]) (by kernel_rfl) (by simp) ?_
      refine AllReady.cons rfl (fun K hK => ?_) ?_
      · go_simp
        refine (NA.out _).mono ?_
        rintro e w1 ⟨rfl, hb1⟩
        refine hK _ _ ?_
        clear hK K
        refine wpAny_ready (rs := [4]) (by kernel_rfl) (by simp) ?_
        refine AllReady.cons rfl (fun K hK => ?_) ?_
        · refine step_load_row rfl (.tmp 5) rfl (w.heap.size + 1) (by simp [Act.eval]) b ((K2.out.drew).below hb1) ?_
          refine hK _ _ ?_
          clear hK K
          refine wpAny_ready (rs := [7]) (by kernel_rfl) (by simp) ?_
          refine AllReady.cons rfl (fun K hK => ?_) ?_
          · go_simp
            refine (NB.out _).mono ?_
            rintro e w2 ⟨rfl, hb2⟩
            refine hK _ _ ?_
            clear hK K
            refine wpAny_ready (rs := [8]) (by kernel_rfl) (by simp) ?_
            refine AllReady.cons rfl (fun K hK => ?_) ?_
            · go_simp
              refine hK _ _ ?_
              clear hK K
              refine wpAny_done (by kernel_rfl) ?_ _
              go_wp2
              go_meet
              exact ⟨rfl, Below.trans (Below.drew (Below.refl _ _)) (Below.trans (hb1.mono (Nat.le_refl _)) (hb2.mono hb1.size))⟩
            exact AllReady.nil
          exact AllReady.nil
        exact AllReady.nil
      refine AllReady.cons rfl (fun K hK => ?_) ?_
      · refine step_load_row rfl (.tmp 5) rfl (w.heap.size + 1) (by simp [Act.eval, Act.put]) b (K2.out.drew) ?_
        refine hK _ _ ?_
        clear hK K
        refine wpAny_ready (rs := [3]) (by kernel_rfl) (by simp) ?_
        refine AllReady.cons rfl (fun K hK => ?_) ?_
        · go_simp
          refine (NA.out _).mono ?_
          rintro e w1 ⟨rfl, hb1⟩
          refine hK _ _ ?_
          clear hK K
          refine wpAny_ready (rs := [7]) (by kernel_rfl) (by simp) ?_
          refine AllReady.cons rfl (fun K hK => ?_) ?_
          · go_simp
            refine (NB.out _).mono ?_
            rintro e w2 ⟨rfl, hb2⟩
            refine hK _ _ ?_
            clear hK K
            refine wpAny_ready (rs := [8]) (by kernel_rfl) (by simp) ?_
            refine AllReady.cons rfl (fun K hK => ?_) ?_
            · go_simp
              refine hK _ _ ?_
              clear hK K
              refine wpAny_done (by kernel_rfl) ?_ _
              go_wp2
              go_meet
              exact ⟨rfl, Below.trans (Below.drew (Below.refl _ _)) (Below.trans (hb1.mono (Nat.le_refl _)) (hb2.mono hb1.size))⟩
            exact AllReady.nil
          exact AllReady.nil
        exact AllReady.nil
      exact AllReady.nil
    refine AllReady.cons rfl (fun K hK => ?_) ?_
    · refine step_load_row rfl (.tmp 5) rfl (w.heap.size + 1) (by simp [Act.eval, Act.put]) b (K2.out.drew) ?_
      refine hK _ _ ?_
      clear hK K
      refine wpAny_ready (rs := [0]) (by kernel_rfl) (by simp) ?_
      refine AllReady.cons rfl (fun K hK => ?_) ?_
      · refine step_load_row rfl (.tmp 4) rfl (w.heap.size) (by simp [Act.eval, Act.put]) a (K1.out.drew) ?_
        refine hK _ _ ?_
        clear hK K
        refine wpAny_ready (rs := [3]) (by kernel_rfl) (by simp) ?_
        refine AllReady.cons rfl (fun K hK => ?_) ?_
        · go_simp
          refine (NA.out _).mono ?_
          rintro e w1 ⟨rfl, hb1⟩
          refine hK _ _ ?_
          clear hK K
          refine wpAny_ready (rs := [7]) (by kernel_rfl) (by simp) ?_
          refine AllReady.cons rfl (fun K hK => ?_) ?_
          · go_simp
            refine (NB.out _).mono ?_
            rintro e w2 ⟨rfl, hb2⟩
            refine hK _ _ ?_
            clear hK K
            refine wpAny_ready (rs := [8]) (by kernel_rfl) (by simp) ?_
            refine AllReady.cons rfl (fun K hK => ?_) ?_
            · go_simp
              refine hK _ _ ?_
              clear hK K
              refine wpAny_done (by kernel_rfl) ?_ _
              go_wp2
              go_meet
              exact ⟨rfl, Below.trans (Below.drew (Below.refl _ _)) (Below.trans (hb1.mono (Nat.le_refl _)) (hb2.mono hb1.size))⟩
            exact AllReady.nil
          exact AllReady.nil
        exact AllReady.nil
      exact AllReady.nil
    exact AllReady.nil
  case rest =>
    obtain ⟨rfl, hb2⟩ := hcut
    have B2 := Lib.hid (K3.out.trans (hb2.mono K3.out.size))
    have K1x := Lib.hid (K1.out.below hb2)
    have K2x := Lib.hid (K2.out.below hb2)
    clear hb2 NA NB
    by_cases hxy : x = y
    · subst hxy
      obtain ⟨rfl, rfl⟩ := H1.out rfl
      have hown0 : (wc.alloc (.cells #[] 3)).ownsRow w.heap.size 3 1 (.slice (some ⟨wc.heap.size, 0, none⟩) 0 0) 0 [] := World.ownsRow_lit wc (e := 3) (size := 1) (base := w.heap.size) #[] 0 B2.out.size (Nat.zero_le _) rfl
      have HO := Lib.hid hown0
      clear hown0 H1 H2 H3
      go_wp2_with fail
      go_ret2
      exact ⟨_, _, rfl, HO.out, B2.out.alloc B2.out.size _⟩
    · have hee : ((x : Int) == (y : Int)) = false := beq_eq_false_iff_ne.2 (by omega)
      by_cases h6 : l = 6
      · obtain ⟨rfl, rfl⟩ := H2.out hxy h6
        subst h6
        have hown0 : (wc.alloc (.cells #[.int .i64 i] 3)).ownsRow w.heap.size 3 1 (.slice (some ⟨wc.heap.size, 0, none⟩) 1 1) 1 [.int .i64 i] := World.ownsRow_lit wc (e := 3) (size := 1) (base := w.heap.size) #[.int .i64 i] 1 B2.out.size (by decide) rfl
        have HO := Lib.hid hown0
        clear hown0 H1 H2 H3 hxy
        go_wp2_with fail
        go_ret2
        exact ⟨_, _, rfl, HO.out, B2.out.alloc B2.out.size _⟩
      · obtain ⟨xs1, n1, xs2, n2, rfl, rfl, hlen, hn, I1, I2⟩ := H3.out hxy (by omega)
        have H6 : ((l : Int) == 6) = false := beq_eq_false_iff_ne.2 (by omega)
        have J1 := Lib.hid I1
        have J2 := Lib.hid I2
        clear I1 I2 H1 H2 H3 hxy
        have hu27 := Try.underlying27
        go_wp2_with (first
          | (refine wpList_load_row rfl 27 _ rfl w.heap.size rfl 27 _ (0, 0) _ K1x.out.blk hu27 rfl (info27 _) ?_)
          | (refine wpList_load_row rfl 27 _ rfl (w.heap.size + 1) rfl 27 _ (0, 0) _ K2x.out.blk hu27 rfl (info27 _) ?_)
          | fail)
        refine (J1.out wc).mono ?_
        rintro e w5 ⟨g1, c1, rfl, ho1, hb5⟩
        have K1y := Lib.hid (K1x.out.below hb5)
        have K2y := Lib.hid (K2x.out.below hb5)
        have B5 := Lib.hid (B2.out.trans (hb5.mono B2.out.size))
        have O1 := Lib.hid (own_base ho1 B2.out.size)
        clear ho1 hb5 K1x K2x B2 J1 K1 K2 K3 K4
        go_wp2_with (first
          | (refine wpList_load_row rfl 27 _ rfl w.heap.size rfl 27 _ (0, 0) _ K1y.out.blk hu27 rfl (info27 _) ?_)
          | (refine wpList_load_row rfl 27 _ rfl (w.heap.size + 1) rfl 27 _ (0, 0) _ K2y.out.blk hu27 rfl (info27 _) ?_)
          | fail)
        refine (J2.out w5).mono ?_
        rintro e w6 ⟨g2, c2, rfl, ho2, hb6⟩
        have B6 := Lib.hid (B5.out.trans (hb6.mono B5.out.size))
        have O2 := Lib.hid (own_below O1.out hb6)
        have I2 := Lib.hid (irow_of_own ho2)
        have hg2 : w5.heap.size ≤ g2 := by
          rcases ho2.2 with ⟨h0, _⟩ | ⟨g, cap, cur, h0, h1, _⟩
          · cases h0
          · cases h0; exact h1
        clear ho2 hb6 K1y K2y B5 O1 J2 hg2
        obtain ⟨i0, hi0, hz0, hz1, hz2⟩ := info_parts info3
        go_wp2_with (first
          | (at_builtin; refine wpList_append_own _ rfl _ _ 29 rfl w.heap.size 3 i0 (.int .i64 0) 1 8 Try.underlying29 hi0 hz0 hz1 hz2 rfl (by decide) _ _ _ rfl O2.out ⟨g2, 0, none⟩ xs2.length c2 (xs2.map (fun k : Nat => Value.int .i64 k)) rfl (by simp) ?c1 ?c2 ?c3 ?c4 ?c5 ?_)
          | fail)
        case c1 =>
          intro j u hj
          rw [List.getElem?_map] at hj
          obtain ⟨s, hs, rfl⟩ := Option.map_eq_some_iff.1 hj
          obtain ⟨p, c, e0, hc⟩ := I2.out
          obtain ⟨g, o, e1, hc⟩ := hc (fun e => by rw [e] at hs; simp at hs)
          rw [e1] at e0
          cases e0
          have hadd : (⟨g2, 0, none⟩ : Addr).add j = ⟨g2, 0 + j, none⟩ := by unfold Addr.add; split <;> simp_all
          rw [hadd]
          exact hc j s hs
        case c2 => intro u hu; simp at hu; obtain ⟨s, _, rfl⟩ := hu; rfl
        case c3 => unfold maxLen; omega
        case c4 => omega
        case c5 => exact B6.out.size
        intro v' w7 hown7 hg7 hnil
        have hb7 : Below w.heap.size w w7 := B6.out.grown hg7 B6.out.size (fun q hq => (World.ownsRow.lt O2.out q hq).1)
        obtain ⟨g7, c7, rfl⟩ : ∃ g7 c7, v' = .slice (some ⟨g7, 0, none⟩) (xs1.length + xs2.length) c7 := by
          rcases hown7.2 with ⟨h0, _⟩ | ⟨g, cap, cur, h0, _⟩
          · exact absurd h0 hnil
          · exact ⟨g, cap, h0⟩
        have hown8 : w7.ownsRow w.heap.size 3 1 (.slice (some ⟨g7, 0, none⟩) (xs1 ++ xs2).length c7) (xs1 ++ xs2).length ((xs1 ++ xs2).map (fun k : Nat => Value.int .i64 k)) := by
          rw [List.length_append, List.map_append]; exact hown7
        have HO := Lib.hid hown8
        have HB := Lib.hid hb7
        clear hown7 hown8 hg7 hb7 O2 I2 B6 hnil
        go_wp2_with fail
        go_ret2
        refine ⟨g7, c7, ?_, HO.out, HB.out⟩
        rw [List.length_append]
        rfl
theorem node20_all (m : Nat → Nat) (hm : ∀ j, m j < 2 ^ 64) (l i T : Nat) (hl : l ≤ 6) (hi : i < 2 ^ l) (hT : 2 ^ l + i = T) :
    Hid (∀ w, Calls Try.prog 20 #[.agg (arr m), .int .i64 l, .int .i64 i] w fun e w' => Node20Post w (nd m T) e w') := Lib.hid (node20_at m hm l i T hl hi hT)
/-- What the reference's Walk finds from a node on, with d levels to go. -/
theorem walk14_any (a b : Nat → Nat) (ha : ∀ j, a j < 2 ^ 64) (hb : ∀ j, b j < 2 ^ 64) : ∀ (d l i T : Nat) (xs : List Nat) (n : Nat), l + d = 6 → i < 2 ^ l → 2 ^ l + i = T → dn a b d T = (xs, n) → ∀ w,
    Calls Try.prog 14 #[.agg (arr a), .agg (arr b), .int .i64 l, .int .i64 i] w fun e w' => Walk14Post w xs n e w'
  | 0, l, i, T, xs, n, hd, hi, hT, hx => fun w => by
    have hl : l = 6 := by omega
    subst hl
    have p6 : 2 ^ 6 = 64 := by decide
    rw [p6] at hi
    refine walk14_one a b 6 i (nd a T) (nd b T) xs n (by decide) hi w (node20_all a ha 6 i T (by decide) hi hT) (node20_all b hb 6 i T (by decide) hi hT) (Lib.hid fun h => ?_) (Lib.hid fun h _ => ?_) (Lib.hid fun _ h => absurd h (by decide))
    · rw [dn_same a b 0 T h] at hx; cases hx; exact ⟨rfl, rfl⟩
    · rw [dn_leaf a b T h] at hx
      rw [p6] at hT
      have e : T - 64 = i := by omega
      rw [e] at hx; cases hx; exact ⟨rfl, rfl⟩
  | d + 1, l, i, T, xs, n, hd, hi, hT, hx => fun w => by
    have hl : l ≤ 6 := by omega
    have hi64 : i < 64 := Nat.lt_of_lt_of_le hi (Nat.le_trans (Nat.pow_le_pow_right (by decide) hl) (by decide))
    have hp : 2 ^ (l + 1) = 2 * 2 ^ l := by rw [Nat.pow_succ, Nat.mul_comm]
    refine walk14_one a b l i (nd a T) (nd b T) xs n hl hi64 w (node20_all a ha l i T hl hi hT) (node20_all b hb l i T hl hi hT) (Lib.hid fun h => ?_) (Lib.hid fun _ h => absurd h (by omega)) (Lib.hid fun h hl6 => ?_)
    · rw [dn_same a b (d + 1) T h] at hx; cases hx; exact ⟨rfl, rfl⟩
    · rw [dn_more a b d T h] at hx
      obtain ⟨xs1, n1, e1⟩ : ∃ xs1 n1, dn a b d (2 * T) = (xs1, n1) := ⟨_, _, rfl⟩
      obtain ⟨xs2, n2, e2⟩ : ∃ xs2 n2, dn a b d (2 * T + 1) = (xs2, n2) := ⟨_, _, rfl⟩
      have b1 := dn_bound a b d (2 * T)
      have b2 := dn_bound a b d (2 * T + 1)
      rw [e1] at b1 hx
      rw [e2] at b2 hx
      cases hx
      have hd5 : d ≤ 5 := by omega
      have q1 : 2 ^ d ≤ 32 := Nat.le_trans (Nat.pow_le_pow_right (by decide) hd5) (by decide)
      have q2 : 2 ^ (d + 1) ≤ 64 := Nat.le_trans (Nat.pow_le_pow_right (by decide) (show d + 1 ≤ 6 by omega)) (by decide)
      obtain ⟨_, b12, b13⟩ := b1
      obtain ⟨_, b22, b23⟩ := b2
      simp only at b12 b13 b22 b23
      refine ⟨xs1, n1, xs2, n2, rfl, rfl, Nat.le_trans (Nat.add_le_add b13 b23) (by omega), by omega, fun w => ?_, fun w => ?_⟩
      · exact walk14_any a b ha hb d (l + 1) (2 * i) (2 * T) xs1 n1 (by omega) (by rw [hp]; omega) (by rw [hp]; omega) e1 w
      · exact walk14_any a b ha hb d (l + 1) (2 * i + 1) (2 * T + 1) xs2 n2 (by omega) (by rw [hp]; omega) (by rw [hp]; omega) e2 w
theorem pair_of {α β : Type} {p : α × β} {x : α} {y : β} (h1 : p.1 = x) (h2 : p.2 = y) : p = (x, y) := by cases p; cases h1; cases h2; rfl
theorem zero_cast : ((0 : Nat) : Int) = 0 := rfl
theorem walk14_root (a b : Nat → Nat) (ha : ∀ j, a j < 2 ^ 64) (hb : ∀ j, b j < 2 ^ 64) (w : World) :
    Calls Try.prog 14 #[.agg (arr a), .agg (arr b), .int .i64 0, .int .i64 0] w fun e w' => Walk14Post w (found a b) (looked a b) e w' := by
  have h := walk14_any a b ha hb 6 0 0 1 (found a b) (looked a b) (by decide) (by decide) (by decide) (pair_of (found_eq a b) (looked_eq a b)) w
  rw [zero_cast] at h
  exact h
end Go.Proofs.Ytibgfmkgojeefaa
