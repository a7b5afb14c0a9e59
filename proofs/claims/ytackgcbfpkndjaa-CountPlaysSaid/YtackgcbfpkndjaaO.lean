/- The contract of the reference's New. Conditions: at most 4096 names. -/
import Derived.Test.YtackgcbfpkndjaaN
import Derived.Test.YtackgcbfpkndjaaM
namespace Go.Proofs.Ytackgcbfpkndjaa
open Go.RowKit Go.Maps Go.WideMaps

theorem zeros_take (n k : Nat) (hk : k < n) : (List.replicate n (0 : Int))[k]? = some 0 := by simp [hk]
theorem zero_cells (ns : List ByteArray) (k : Nat) (s : ByteArray) (hs : ns[k]? = some s) :
    statCells (ns.take (k + 1)) (List.replicate (k + 1) 0) = statCells (ns.take k) (List.replicate k 0) ++ [.string s, .int .u64 0] := by
  have hk : k < ns.length := (List.getElem?_eq_some_iff.1 hs).1
  have h := statCells_take ns (List.replicate ns.length 0) k s 0 hs (zeros_take _ _ hk)
  rw [List.take_replicate, List.take_replicate, Nat.min_eq_left (by omega), Nat.min_eq_left (by omega)] at h
  exact h
def RefNew (w : World) (ns : List ByteArray) (e : Ending) (w' : World) : Prop :=
  ∃ g c, e = .returned (.tuple #[.slice (some ⟨g, 0, none⟩) ns.length c, .bool true]) ∧ SR w' g ns (List.replicate ns.length 0) ∧ g < w'.heap.size ∧ w.heap.size ≤ g ∧ Below w.heap.size w w'
theorem sr_of_owns {w : World} {B n : Nat} {v : Value} {ns : List ByteArray} {vs : List Int} (h : w.ownsRow B 39 2 v n (statCells ns vs)) (hn : 0 < n) : ∃ g c, v = .slice (some ⟨g, 0, none⟩) n c ∧ B ≤ g ∧ g < w.heap.size ∧ SR w g ns vs := by
  have h0 := h
  have hlen := h.1
  rcases h.2 with ⟨_, e⟩ | ⟨g, cap, cur, rfl, hg, hh, _⟩
  · omega
  · refine ⟨g, cap, rfl, hg, lt_of_block hh, fun j u hj => ?_⟩
    have := (List.getElem?_eq_some_iff.1 hj).1
    rw [h0.cellAt j (by omega), hj]

set_option maxHeartbeats 1000000 in
theorem ref_new_ok (nb no c : Nat) (ns : List ByteArray) (w : World) (hc : ∀ j s, ns[j]? = some s → w.cell? ⟨nb, no + j, none⟩ = some (.string s)) (hn : ns.length ≤ 4096) (hpos : 1 ≤ ns.length) (hg : Good ns) :
    Calls Try.prog 13 #[.slice (some ⟨nb, no, none⟩) ns.length c] w fun e w' => RefNew w ns e w' := by
  obtain ⟨i0, hi, hz0, hz1, hz2⟩ := info_parts info39
  have HC := Lib.hid hc
  have HG := Lib.hid hg
  clear hc hg
  have hown0 : (w.alloc (.cells #[] 39)).ownsRow w.heap.size 39 2 (.slice (some ⟨w.heap.size, 0, none⟩) 0 0) 0 [] := World.ownsRow_lit w #[] 0 (Nat.le_refl _) (Nat.zero_le _) rfl
  have HOWN := Lib.hid hown0
  have hz : ((ns.length : Int) == 0) = false := beq_eq_false_iff_ne.2 (by omega)
  clear hown0
  go_enter Try.func13, Try.ntmps13
  go_wp2
  go_loopw [4, 19] (fun v i wr => ∃ k : Nat, k ≤ ns.length ∧ i = .int .i64 k ∧ wr.ownsRow w.heap.size 39 2 v k (statCells (ns.take k) (List.replicate k 0)) ∧ Below w.heap.size w wr)
    (fun _ i _ => ns.length - (intOf i).toNat)
  case atStart => exact ⟨0, Nat.zero_le _, rfl, HOWN.out, (Below.refl _ _).alloc (Nat.le_refl _) _⟩
  case round =>
    obtain ⟨k, hk, rfl, hown, hb⟩ := hrel
    clear HOWN
    by_cases hlt : k < ns.length
    · obtain ⟨s, hs⟩ : ∃ s, ns[k]? = some s := ⟨_, List.getElem?_eq_getElem hlt⟩
      have c0 := (hb.cell (World.block_lt_of_cell? w _ (HC.out k s hs))).trans (HC.out k s hs)
      have hemp : s.toList.isEmpty = false := empty_no (HG.out.2 s (List.mem_of_getElem? hs))
      have HS := Lib.hid hs
      have HT := Lib.hid (zero_cells ns k s hs)
      have hsz := hb.size
      clear hs
      go_wp2_with fail
      obtain ⟨wo, rfl⟩ : ∃ wo : World, wo = wr := ⟨_, rfl⟩
      go_loopw [6] (fun v wr => ∃ j m : Nat, j ≤ k ∧ v = .int .i64 j ∧ wr = wo.drewN m) (fun v _ => k - (intOf v).toNat)
      case atStart => exact ⟨0, 0, Nat.zero_le _, rfl, rfl⟩
      case round =>
        obtain ⟨j, m, hj, rfl, rfl⟩ := hrel
        by_cases hjk : j < k
        · obtain ⟨t, ht⟩ : ∃ t, ns[j]? = some t := ⟨_, List.getElem?_eq_getElem (l := ns) (i := j) (by omega)⟩
          have d0 := (hb.cell (World.block_lt_of_cell? w _ (HC.out j t ht))).trans (HC.out j t ht)
          have hne : t ≠ s := by
            intro e
            rw [e] at ht
            have := (List.getElem?_inj (by omega) HG.out.1).1 (ht.trans HS.out.symm)
            omega
          have hbq := str_ne t s hne
          have hj0 : (0 : Int) ≤ (j : Int) := by omega
          have hk0 : (0 : Int) ≤ (k : Int) := by omega
          have hjn : (j : Int) < ns.length := by omega
          have hkn : (k : Int) < ns.length := by omega
          clear ht hne
          go_wp2_with fail
          go_quiet (fail)
          clear d0 c0 hbq
          go_wp2
          go_roundw
          case rel => exact ⟨j + 1, _, by omega, by go_num, rfl⟩
          case measure => simp [intOf]; omega
        · have hkn : (k : Int) < ns.length := by omega
          go_wp2_with (first
            | (at_builtin; refine wpList_append_own _ rfl _ _ 34 rfl w.heap.size 39 i0 (.agg #[.string ⟨#[]⟩, .int .u64 0]) 2 24 Try.underlying34 hi hz0 hz1 hz2 rfl (by decide) _ _ _ rfl (by exact hown.alloc _) ⟨wo.heap.size, 0, none⟩ 1 1 [.string s, .int .u64 0] rfl rfl ?c1 ?c2 ?c3 ?c4 ?c5 ?_))
          case c1 =>
            intro i u hi
            match i, hi with
            | 0, hi => simp at hi; subst hi; exact cell_new (W := wo.drewN m) rfl #[.string s, .int .u64 0] 39 0
            | 1, hi => simp at hi; subst hi; exact cell_new (W := wo.drewN m) rfl #[.string s, .int .u64 0] 39 1
          case c2 => intro u hu; simp at hu; rcases hu with rfl | rfl <;> rfl
          case c3 => unfold maxLen; omega
          case c4 => omega
          case c5 => simp; omega
          intro v' w1 hown1 hg1 _
          have hb1 : Below w.heap.size w w1 := ((below_drewN' hb m).alloc hsz (.cells #[.string s, .int .u64 0] 39)).grown hg1 (by simp; omega) (fun q hq => (hown.lt q hq).1)
          clear hown hg1 hb c0
          go_wp2
          go_roundw
          case rel => exact ⟨k + 1, by omega, by go_num, by rw [HT.out]; exact hown1, hb1⟩
          case measure => simp [intOf]; omega
    · obtain rfl : k = ns.length := by omega
      rw [List.take_of_length_le (Nat.le_refl _)] at hown
      obtain ⟨g, cg, hv, hg0, hg1, hsr⟩ := sr_of_owns hown (by omega)
      have HSR := Lib.hid hsr
      have HB := Lib.hid hb
      have HV := Lib.hid hv
      clear hown hb hsr hv
      go_wp2
      go_ret2
      rw [HV.out]
      exact ⟨g, cg, rfl, HSR.out, hg1, hg0, HB.out⟩
def RefBad (w : World) (e : Ending) (w' : World) : Prop := ∃ v, e = .returned (.tuple #[v, .bool false]) ∧ Below w.heap.size w w'
theorem ref_new_none (a : Option Addr) (c : Nat) (w : World) : Calls Try.prog 13 #[.slice a 0 c] w fun e w' => RefBad w e w' := by
  go_enter Try.func13, Try.ntmps13
  go_wp2
  go_ret2
  exact ⟨_, rfl, (Below.refl _ _).alloc (Nat.le_refl _) _⟩

set_option maxHeartbeats 1000000 in
theorem ref_new_bad (nb no c : Nat) (ns : List ByteArray) (w : World) (hc : ∀ j s, ns[j]? = some s → w.cell? ⟨nb, no + j, none⟩ = some (.string s)) (hn : ns.length ≤ 4096) (K : Nat) (z : ByteArray) (hK : BadAt ns K z) :
    Calls Try.prog 13 #[.slice (some ⟨nb, no, none⟩) ns.length c] w fun e w' => RefBad w e w' := by
  obtain ⟨i0, hi, hz0, hz1, hz2⟩ := info_parts info39
  have HC := Lib.hid hc
  have hKl : K < ns.length := (List.getElem?_eq_some_iff.1 hK.1).1
  have HG := Lib.hid hK
  clear hc hK
  have hown0 : (w.alloc (.cells #[] 39)).ownsRow w.heap.size 39 2 (.slice (some ⟨w.heap.size, 0, none⟩) 0 0) 0 [] := World.ownsRow_lit w #[] 0 (Nat.le_refl _) (Nat.zero_le _) rfl
  have HOWN := Lib.hid hown0
  have hz : ((ns.length : Int) == 0) = false := beq_eq_false_iff_ne.2 (by omega)
  clear hown0
  go_enter Try.func13, Try.ntmps13
  go_wp2
  go_loopw [4, 19] (fun v i wr => ∃ k : Nat, k ≤ K ∧ i = .int .i64 k ∧ wr.ownsRow w.heap.size 39 2 v k (statCells (ns.take k) (List.replicate k 0)) ∧ Below w.heap.size w wr)
    (fun _ i _ => ns.length - (intOf i).toNat)
  case atStart => exact ⟨0, Nat.zero_le _, rfl, HOWN.out, (Below.refl _ _).alloc (Nat.le_refl _) _⟩
  case round =>
    obtain ⟨k, hk, rfl, hown, hb⟩ := hrel
    clear HOWN
    by_cases hlt : k < K
    · obtain ⟨s, hs⟩ : ∃ s, ns[k]? = some s := ⟨_, List.getElem?_eq_getElem (l := ns) (i := k) (by omega)⟩
      have c0 := (hb.cell (World.block_lt_of_cell? w _ (HC.out k s hs))).trans (HC.out k s hs)
      have hemp : s.toList.isEmpty = false := empty_no (HG.out.2.1.2 s (List.mem_of_getElem? (i := k) (by rw [List.getElem?_take, if_pos hlt]; exact hs)))
      have HS := Lib.hid hs
      have HT := Lib.hid (zero_cells ns k s hs)
      have hsz := hb.size
      clear hs
      go_wp2_with fail
      obtain ⟨wo, rfl⟩ : ∃ wo : World, wo = wr := ⟨_, rfl⟩
      go_loopw [6] (fun v wr => ∃ j m : Nat, j ≤ k ∧ v = .int .i64 j ∧ wr = wo.drewN m) (fun v _ => k - (intOf v).toNat)
      case atStart => exact ⟨0, 0, Nat.zero_le _, rfl, rfl⟩
      case round =>
        obtain ⟨j, m, hj, rfl, rfl⟩ := hrel
        by_cases hjk : j < k
        · obtain ⟨t, ht⟩ : ∃ t, ns[j]? = some t := ⟨_, List.getElem?_eq_getElem (l := ns) (i := j) (by omega)⟩
          have d0 := (hb.cell (World.block_lt_of_cell? w _ (HC.out j t ht))).trans (HC.out j t ht)
          have hne : t ≠ s := by
            intro e
            rw [e] at ht
            have h1 : (ns.take K)[j]? = (ns.take K)[k]? := by rw [List.getElem?_take, if_pos (by omega), List.getElem?_take, if_pos hlt]; exact ht.trans HS.out.symm
            have := (List.getElem?_inj (by rw [List.length_take]; omega) HG.out.2.1.1).1 h1
            omega
          have hbq := str_ne t s hne
          have hj0 : (0 : Int) ≤ (j : Int) := by omega
          have hk0 : (0 : Int) ≤ (k : Int) := by omega
          have hjn : (j : Int) < ns.length := by omega
          have hkn : (k : Int) < ns.length := by omega
          clear ht hne
          go_wp2_with fail
          go_quiet (fail)
          clear d0 c0 hbq
          go_wp2
          go_roundw
          case rel => exact ⟨j + 1, _, by omega, by go_num, rfl⟩
          case measure => simp [intOf]; omega
        · have hkn : (k : Int) < ns.length := by omega
          go_wp2_with (first
            | (at_builtin; refine wpList_append_own _ rfl _ _ 34 rfl w.heap.size 39 i0 (.agg #[.string ⟨#[]⟩, .int .u64 0]) 2 24 Try.underlying34 hi hz0 hz1 hz2 rfl (by decide) _ _ _ rfl (by exact hown.alloc _) ⟨wo.heap.size, 0, none⟩ 1 1 [.string s, .int .u64 0] rfl rfl ?c1 ?c2 ?c3 ?c4 ?c5 ?_))
          case c1 =>
            intro i u hi
            match i, hi with
            | 0, hi => simp at hi; subst hi; exact cell_new (W := wo.drewN m) rfl #[.string s, .int .u64 0] 39 0
            | 1, hi => simp at hi; subst hi; exact cell_new (W := wo.drewN m) rfl #[.string s, .int .u64 0] 39 1
          case c2 => intro u hu; simp at hu; rcases hu with rfl | rfl <;> rfl
          case c3 => unfold maxLen; omega
          case c4 => omega
          case c5 => simp; omega
          intro v' w1 hown1 hg1 _
          have hb1 : Below w.heap.size w w1 := ((below_drewN' hb m).alloc hsz (.cells #[.string s, .int .u64 0] 39)).grown hg1 (by simp; omega) (fun q hq => (hown.lt q hq).1)
          clear hown hg1 hb c0
          go_wp2
          go_roundw
          case rel => exact ⟨k + 1, by omega, by go_num, by rw [HT.out]; exact hown1, hb1⟩
          case measure => simp [intOf]; omega
    · obtain rfl : k = K := by omega
      have c0 := (hb.cell (World.block_lt_of_cell? w _ (HC.out k z HG.out.1))).trans (HC.out k z HG.out.1)
      have hkl2 : (k : Int) < ns.length := by omega
      have HB := Lib.hid hb
      clear hown hb
      by_cases hze : z.size = 0
      · have hemp := empty_yes hze
        go_wp2
        go_ret2
        exact ⟨_, rfl, HB.out⟩
      · have hemp := empty_no hze
        obtain ⟨jj, hjj⟩ := List.mem_iff_getElem?.1 (HG.out.2.2.resolve_left hze)
        have hjk : jj < k := by
          have := (List.getElem?_eq_some_iff.1 hjj).1
          rw [List.length_take] at this
          omega
        rw [List.getElem?_take, if_pos hjk] at hjj
        have HJJ := Lib.hid hjj
        clear hjj
        go_wp2_with fail
        obtain ⟨wo, rfl⟩ : ∃ wo : World, wo = wr := ⟨_, rfl⟩
        go_loopw [6] (fun v wr => ∃ j m : Nat, j ≤ jj ∧ v = .int .i64 j ∧ wr = wo.drewN m) (fun v _ => jj - (intOf v).toNat)
        case atStart => exact ⟨0, 0, Nat.zero_le _, rfl, rfl⟩
        case round =>
          obtain ⟨j, m, hj, rfl, rfl⟩ := hrel
          obtain ⟨t, ht⟩ : ∃ t, ns[j]? = some t := ⟨_, List.getElem?_eq_getElem (l := ns) (i := j) (by omega)⟩
          have d0 := (HB.out.cell (World.block_lt_of_cell? w _ (HC.out j t ht))).trans (HC.out j t ht)
          have hj0 : (0 : Int) ≤ (j : Int) := by omega
          have hk0 : (0 : Int) ≤ (k : Int) := by omega
          have hjn : (j : Int) < ns.length := by omega
          have hkn : (k : Int) < ns.length := by omega
          have hjk2 : j < k := by omega
          by_cases heq : t = z
          · subst heq
            have hbq := str_same t
            clear ht
            go_wp2_with fail
            go_quiet (fail)
            clear d0 c0 hbq
            go_wp2
            go_ret2
            exact ⟨_, rfl, below_drewN' (below_drewN' HB.out _) _⟩
          · have hbq := str_ne t z heq
            have hlt2 : j < jj := by
              rcases Nat.lt_or_ge j jj with h | h
              · exact h
              · have : j = jj := by omega
                rw [this, HJJ.out] at ht
                injection ht with ht
                exact absurd ht.symm heq
            clear ht heq
            go_wp2_with fail
            go_quiet (fail)
            clear d0 c0 hbq
            go_wp2
            go_roundw
            case rel => exact ⟨j + 1, _, by omega, by go_num, rfl⟩
            case measure => simp [intOf]; omega
end Go.Proofs.Ytackgcbfpkndjaa
