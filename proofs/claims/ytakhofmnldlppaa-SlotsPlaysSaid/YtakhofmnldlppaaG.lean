/- The contract of a table's Drop. Conditions: the table is nil, or one of at most 2048 slots, one of which is empty. -/
import Derived.Test.YtakhofmnldlppaaF
namespace Go.Proofs.Ytakhofmnldlppaa
open Go.RowKit

theorem drop_nil (s : ByteArray) (w : World) : Calls Try.prog 12 #[.pointer none, .string s] w fun e w' => e = .returned (.bool false) ∧ w = w' := by
  go_enter Try.func12, Try.ntmps12
  go_wp2
  go_ret
  exact ⟨rfl, rfl⟩
/-- How far slot i lies behind slot h. -/
def dst (m h i : Nat) : Nat := (i + m - h) % m
/-- The slots behind the hole are gone through, from i on. -/
def pull (L : List S) : Nat → Nat → Nat → List S × Nat
  | 0, hole, _ => (L, hole)
  | f + 1, hole, i => match L[i]? with
    | none => (L, hole)
    | some x => if x.used then
        (if dst L.length hole i ≤ dst L.length x.home i then pull (L.set hole x) f i ((i + 1) % L.length) else pull L f hole ((i + 1) % L.length))
      else (L, hole)
def dropP (L : List S) (n : Nat) (s : ByteArray) : Bool × List S × Nat :=
  if (findP L s).2 then
    (true, (pull L L.length (findP L s).1 (((findP L s).1 + 1) % L.length)).1.set (pull L L.length (findP L s).1 (((findP L s).1 + 1) % L.length)).2 zeroS, n - 1)
  else (false, L, n)
def DropPost (w : World) (b g : Nat) (most : Nat) (p : Bool × List S × Nat) (e : Ending) (w' : World) : Prop :=
  e = .returned (.bool p.1) ∧ TabAt w' b g p.2.1 most p.2.2 ∧ Near w w' b g
theorem dst_wrap {m h i : Nat} (hm : m ≤ 2048) (hh : h < m) (_hi : i < m) : IntKind.i64.wrap ((i : Int) - (h : Int)) = (i : Int) - h ∧ IntKind.i64.wrap ((i : Int) - (h : Int) + m) = (i : Int) - h + m ∧ (0 : Int) ≤ (i : Int) - h + m :=
  ⟨IntWalk.i64_in _ (by omega), IntWalk.i64_in _ (by omega), by omega⟩
theorem dst_emod {m h i : Nat} (hh : h < m) (_hi : i < m) : ((i : Int) - (h : Int) + m) % m = ((dst m h i : Nat) : Int) := by
  have e : (i : Int) - (h : Int) + m = ((i + m - h : Nat) : Int) := by omega
  rw [e]
  rfl
theorem dst_sub {m h i : Nat} (hh : h < m) (hi : i < m) : ((i : Int) - (h : Int)) % m = ((dst m h i : Nat) : Int) := by
  rw [← Int.add_emod_right]
  exact dst_emod hh hi
theorem set4_other {w : World} {g p q k : Nat} {v0 v1 v2 v3 u : Value} (hne : p ≠ q) (hk : k < 4) (h : w.cell? ⟨g, q * 4 + k, none⟩ = some u) :
    ((((w.setCell ⟨g, p * 4, none⟩ v0).setCell ⟨g, p * 4 + 1, none⟩ v1).setCell ⟨g, p * 4 + 2, none⟩ v2).setCell ⟨g, p * 4 + 3, none⟩ v3).cell? ⟨g, q * 4 + k, none⟩ = some u := by
  have e : ∀ j, j < 4 → (⟨g, p * 4 + j, none⟩ : Addr) ≠ ⟨g, q * 4 + k, none⟩ := fun j hj he => by
    injection he with _ he
    omega
  rw [World.cell?_setCell_other _ _ _ _ (e 3 (by decide)), World.cell?_setCell_other _ _ _ _ (e 2 (by decide)), World.cell?_setCell_other _ _ _ _ (e 1 (by decide)), show (⟨g, p * 4, none⟩ : Addr) = ⟨g, p * 4 + 0, none⟩ from rfl, World.cell?_setCell_other _ _ _ _ (e 0 (by decide))]
  exact h
theorem set4_other0 {w : World} {g p q : Nat} {v0 v1 v2 v3 u : Value} (hne : p ≠ q) (h : w.cell? ⟨g, q * 4, none⟩ = some u) :
    ((((w.setCell ⟨g, p * 4, none⟩ v0).setCell ⟨g, p * 4 + 1, none⟩ v1).setCell ⟨g, p * 4 + 2, none⟩ v2).setCell ⟨g, p * 4 + 3, none⟩ v3).cell? ⟨g, q * 4, none⟩ = some u := set4_other (k := 0) hne (by decide) h
theorem dst_lt {m h i : Nat} (h0 : 1 ≤ m) : dst m h i < m := Nat.mod_lt _ (by omega)
theorem dst_next {m i F : Nat} (hi : i < m) (hF : F < m) (hne : i ≠ F) : dst m ((i + 1) % m) F + 1 = dst m i F := by
  unfold dst
  by_cases h : i + 1 = m
  · rw [h, Nat.mod_self, show F + m - 0 = F + m by omega, Nat.add_mod_right, Nat.mod_eq_of_lt hF, show F + m - i = F + 1 by omega, Nat.mod_eq_of_lt (by omega)]
  · rw [Nat.mod_eq_of_lt (show i + 1 < m by omega)]
    by_cases h2 : i < F
    · rw [show F + m - (i + 1) = (F - (i + 1)) + m by omega, show F + m - i = (F - i) + m by omega, Nat.add_mod_right, Nat.add_mod_right, Nat.mod_eq_of_lt (by omega), Nat.mod_eq_of_lt (by omega)]
      omega
    · rw [Nat.mod_eq_of_lt (by omega), Nat.mod_eq_of_lt (by omega)]
      omega
theorem get_lt {α : Type} {L : List α} {i : Nat} {x : α} (h : L[i]? = some x) : i < L.length := (List.getElem?_eq_some_iff.1 h).1
theorem meas_drop {m F i j : Nat} {v v' : Value} (hv : v = .int .i64 (i : Nat)) (hv' : v' = .int .i64 (j : Nat)) (h : dst m j F + 1 = dst m i F) : dst m (intOf v').toNat F < dst m (intOf v).toNat F := by
  subst hv hv'
  have a : (intOf (.int .i64 (i : Nat))).toNat = i := by simp [intOf]
  have b : (intOf (.int .i64 (j : Nat))).toNat = j := by simp [intOf]
  rw [a, b]
  omega
set_option maxHeartbeats 4000000 in
theorem drop_any {w : World} {b g : Nat} {L : List S} {most n : Nat} (h : TabAt w b g L most n) (h1 : L.length ≤ 2048) (hn : n ≤ 2048) (s : ByteArray) (hs : s.size ≤ 9223372036854775807) (D : Nat) (hfree : Free L (hm L s) D)
    (hn1 : (findP L s).2 = true → 1 ≤ n) (hhome : ∀ x ∈ L, x.home < L.length) :
    Calls Try.prog 12 #[.pointer (some ⟨b, 0, none⟩), .string s] w fun e w' => DropPost w b g most (dropP L n s) e w' := by
  have hfind := Lib.hid (find_any h h1 s hs D hfree)
  obtain ⟨x, hx, hxt, hxf⟩ := find_at hfree
  obtain ⟨F, hF⟩ : ∃ F, F = (hm L s + D) % L.length := ⟨_, rfl⟩
  obtain ⟨hD, z, hz, hzu⟩ := hfree
  rw [← hF] at hz
  have hFl := get_lt hz
  have hil := get_lt hx
  obtain ⟨p, hp⟩ : ∃ p, findP L s = p := ⟨_, rfl⟩
  have hpost : dropP L n s = if p.2 then (true, (pull L L.length p.1 ((p.1 + 1) % L.length)).1.set (pull L L.length p.1 ((p.1 + 1) % L.length)).2 zeroS, n - 1) else (false, L, n) := by
    unfold dropP
    rw [hp]
  rw [hp] at hx hxt hxf hil hn1
  obtain ⟨i0, there⟩ := p
  simp only at hx hxt hxf hil hpost hn1
  have h0 : 1 ≤ L.length := by omega
  have HT := Lib.hid h
  have HP := Lib.hid hpost
  have HZ := Lib.hid (And.intro hz hzu)
  have HH := Lib.hid hhome
  obtain ⟨m, hml⟩ : ∃ m, L.length = m := ⟨_, rfl⟩
  rw [hml] at hil h1 h0 hFl
  have HM := Lib.hid hml
  have HPP := Lib.hid hp
  have HNE := Lib.hid (show there = true → i0 ≠ F from fun ht e => by
    rw [e, hz] at hx
    injection hx with hx
    rw [← hx, hzu] at hxt
    exact Bool.noConfusion (hxt ht).1)
  clear h hml hx hpost hp hxt hxf hz hzu hF hD hhome
  go_enter Try.func12, Try.ntmps12
  go_wp2_with fail
  refine (hfind.out).mono ?_
  rintro e w1 ⟨rfl, hb⟩
  have HT1 := Lib.hid (HT.out.below hb)
  have HB := Lib.hid hb
  rw [HPP.out]
  obtain ⟨c0, c1, c2⟩ := HT1.out.head
  rw [HM.out] at c0
  clear hb hfind
  cases there with
  | false =>
    go_wp2_with fail
    go_ret
    refine ⟨by rw [HP.out]; rfl, ?_, Near.of_below HB.out⟩
    rw [HP.out]
    exact HT1.out
  | true =>
    have HNE2 := Lib.hid (HNE.out rfl)
    have hn2 := hn1 rfl
    have hw := wrap_next hil h1
    have hne : (m : Int) ≠ 0 := by omega
    clear hn1 HNE
    go_wp2_with fail
    go_loopw [5, 8] (fun v5 v8 wr => ∃ (M : List S) (hole i f : Nat), M.length = m ∧ hole < m ∧ i < m ∧ v5 = .int .i64 hole ∧ v8 = .int .i64 i ∧ Hid (TabAt wr b g M most n) ∧ Hid (Near w wr b g) ∧ Hid (pull M f hole i = pull L m i0 ((i0 + 1) % m)) ∧ Hid (∀ x ∈ M, x.home < m) ∧ Hid (hole ≠ F) ∧ Hid (∃ z, M[F]? = some z ∧ z.used = false) ∧ Hid (dst m i F < f) ∧ Hid (dst m i F < dst m hole F)) (fun _ v8 _ => dst m (intOf v8).toNat F)
    case atStart =>
      refine ⟨L, i0, (i0 + 1) % m, m, HM.out, hil, Nat.mod_lt _ h0, rfl, by go_num, HT1, Lib.hid (Near.of_below HB.out), Lib.hid rfl, ?_, HNE2, Lib.hid ⟨_, HZ.out⟩, Lib.hid (dst_lt h0), Lib.hid (by have := dst_next hil hFl HNE2.out; omega)⟩
      have h := HH.out
      rw [HM.out] at h
      exact Lib.hid h
    case round =>
      obtain ⟨M, hole, i, f, hM, hhole, hi, rfl, rfl, hT, hN, hP, hH, hne2, hZ, hf, hD⟩ := hrel
      clear HT1 HB c0 c1 c2 HT HNE2 hw
      obtain ⟨x, hx⟩ : ∃ x, M[i]? = some x := ⟨_, List.getElem?_eq_getElem (by rw [hM]; exact hi)⟩
      obtain ⟨y, hy⟩ : ∃ y, M[hole]? = some y := ⟨_, List.getElem?_eq_getElem (by rw [hM]; exact hhole)⟩
      obtain ⟨a0, a1, a2, a3⟩ := hT.out.at hx
      obtain ⟨c0, -, c2⟩ := hT.out.head
      rw [hM] at c0
      have hi0 : (0 : Int) ≤ (i : Int) := by omega
      have hi1 : (i : Int) < (m : Int) := by omega
      have hh0 : (0 : Int) ≤ (hole : Int) := by omega
      have hh1 : (hole : Int) < (m : Int) := by omega
      have hxhome := hH.out x (List.mem_of_getElem? hx)
      obtain ⟨f, rfl⟩ : ∃ f', f = f' + 1 := ⟨f - 1, by have := hf.out; omega⟩
      have hp := hP.out
      rw [pull, hx] at hp
      simp only at hp
      have HX := Lib.hid hx
      have HY := Lib.hid hy
      have HMM := Lib.hid hM
      clear hx hy hM hP
      cases hu : x.used with
      | false =>
        rw [hu, if_neg Bool.false_ne_true] at hp
        rw [hu] at a0
        have f0 := (hT.out.free (hole * 4)).2
        have f1 := (hT.out.free (hole * 4 + 1)).2
        have f2 := (hT.out.free (hole * 4 + 2)).2
        have f3 := (hT.out.free (hole * 4 + 3)).2
        have g2 := (hT.out.free 2).1
        obtain ⟨b0, b1, b2, b3⟩ := hT.out.at HY.out
        have HPU := Lib.hid hp
        have HU := Lib.hid hu
        have hT6 := hT.out.put4 HY.out zeroS
        have hgb : g ≠ b := hT.out.ne.symm
        have hbg : b ≠ g := hT.out.ne
        have HT6 := Lib.hid hT6
        have hwn : IntKind.i64.wrap ((n : Int) - 1) = (n : Int) - 1 := IntWalk.i64_in _ (by omega)
        clear hp hu hxhome hT6
        go_wp2_with fail
        go_ret
        have hpp := HP.out
        rw [if_pos trivial, HM.out, ← HPU.out] at hpp
        have hc := HT6.out.count (n - 1)
        rw [show (((n - 1 : Nat)) : Int) = (n : Int) - 1 by omega] at hc
        exact ⟨by rw [hpp]; rfl, by rw [hpp]; exact hc, ((((hN.out.set _ _ (.inr rfl)).set _ _ (.inr rfl)).set _ _ (.inr rfl)).set _ _ (.inr rfl)).set _ _ (.inl rfl)⟩
      | true =>
        rw [hu, if_pos rfl, HMM.out] at hp
        rw [hu] at a0
        have hiF : i ≠ F := fun e => by
          obtain ⟨z, hz, hzu⟩ := hZ.out
          have hx2 := HX.out
          rw [e, hz] at hx2
          injection hx2 with hx2
          rw [hx2, hu] at hzu
          cases hzu
        have HIF := Lib.hid hiF
        have HU := Lib.hid hu
        obtain ⟨A1, A2, A3⟩ := dst_wrap h1 hxhome hi
        obtain ⟨B1, B2, B3⟩ := dst_wrap h1 hhole hi
        have hx0 : (0 : Int) ≤ (x.home : Int) := by omega
        have hx1 : (x.home : Int) < (m : Int) := by omega
        have hwn := wrap_next hi h1
        have hmeas := Lib.hid (dst_next hi hFl hiF)
        by_cases hcmp : dst m hole i ≤ dst m x.home i
        · rw [if_pos hcmp] at hp
          have HPU := Lib.hid hp
          have hcz : ((i : Int) - (hole : Int)) % m ≤ ((i : Int) - (x.home : Int)) % m := by rw [dst_sub hhole hi, dst_sub hxhome hi]; omega
          clear hp hu hcmp hiF
          go_wp2_with fail
          go_quiet (fail)
          go_wp2_with fail
          obtain ⟨w2, hw2⟩ : ∃ w2, w2 = wr.drewN nq := ⟨_, rfl⟩
          rw [← hw2]
          have hT2 : TabAt w2 b g M most n := by rw [hw2]; exact hT.out.heap rfl rfl
          have hN2 : Near w w2 b g := by rw [hw2]; exact hN.out.drewN _
          have HT2 := Lib.hid hT2
          have HN2 := Lib.hid hN2
          have d0 := HT2.out.head.1
          rw [HMM.out] at d0
          obtain ⟨p0, p1, p2, p3⟩ := HT2.out.at HX.out
          obtain ⟨q0, q1, q2, q3⟩ := HT2.out.at HY.out
          have r0 := (HT2.out.free (hole * 4)).2
          have r1 := (HT2.out.free (hole * 4 + 1)).2
          have r2 := (HT2.out.free (hole * 4 + 2)).2
          have r3 := (HT2.out.free (hole * 4 + 3)).2
          have hgb : g ≠ b := HT2.out.ne.symm
          have hih : hole ≠ i := fun e => by have := hD.out; rw [e] at this; exact Nat.lt_irrefl _ this
          rw [HU.out] at p0
          have hXF := Lib.hid hih
          clear a0 a1 a2 a3 c0 c2 hw2 hT2 hN2 hcz A1 A2 A3 B1 B2 B3 hx0 hx1 hxhome
          go_region_held3 (fun w' => w'.cell? ⟨b, 0, none⟩ = some (.slice (some ⟨g, 0, none⟩) m m) ∧ w'.cell? ⟨g, i * 4, none⟩ = some (.bool true) ∧ w'.cell? ⟨g, i * 4 + 1, none⟩ = some (.string x.key) ∧ w'.cell? ⟨g, i * 4 + 2, none⟩ = some (.int .i64 x.home) ∧ w'.cell? ⟨g, i * 4 + 3, none⟩ = some (.int .i64 x.v))
            ((go_split_ands; (try dsimp only); (refine ⟨?_, ?_, ?_, ?_, ?_⟩ <;> first | (with_reducible assumption) | (with_reducible exact drew_keep (by assumption)) | (with_reducible exact drew_keep (set2_far hgb (set2_far hgb (by assumption)))) | (with_reducible exact drew_keep (set4_other0 hXF.out (by assumption))) | (with_reducible exact drew_keep (set4_other hXF.out (by decide) (by assumption))))))
            (first | fail)
          rename_i hHeld
          obtain ⟨w6, hw6⟩ : ∃ w6, w6 = ((((w2.setCell ⟨g, hole * 4, none⟩ (.bool true)).setCell ⟨g, hole * 4 + 1, none⟩ (.string x.key)).setCell ⟨g, hole * 4 + 2, none⟩ (.int .i64 x.home)).setCell ⟨g, hole * 4 + 3, none⟩ (.int .i64 x.v)).drew := ⟨_, rfl⟩
          have hT6 : TabAt w6 b g (M.set hole x) most n := by
            have h := HT2.out.put4 HY.out x
            rw [HU.out] at h
            rw [hw6]
            exact h.heap rfl rfl
          have hN6 : Near w w6 b g := by
            rw [hw6]
            exact ((((HN2.out.set _ _ (.inr rfl)).set _ _ (.inr rfl)).set _ _ (.inr rfl)).set _ _ (.inr rfl)).drewN 1
          rw [← hw6]
          have HT6 := Lib.hid hT6
          have HN6 := Lib.hid hN6
          clear hHeld hT6 hN6 hw6 HT2 HN2 d0 p0 p1 p2 p3 q0 q1 q2 q3 r0 r1 r2 r3 hgb hih
          go_wp2_with fail
          go_roundw
          case rel =>
            refine ⟨M.set hole x, i, (i + 1) % m, f, by rw [List.length_set]; exact HMM.out, hi, Nat.mod_lt _ h0, rfl, by go_num, HT6, HN6, HPU, ?_, HIF, ?_, ?_, ?_⟩
            · refine Lib.hid (fun y hy => ?_)
              rcases List.mem_or_eq_of_mem_set hy with h | rfl
              · exact hH.out y h
              · exact hH.out y (List.mem_of_getElem? HX.out)
            · refine Lib.hid ?_
              rw [List.getElem?_set_ne hne2.out]
              exact hZ.out
            · refine Lib.hid ?_
              have h1 := hmeas.out
              have h2 := hf.out
              omega
            · refine Lib.hid ?_
              have h1 := hmeas.out
              omega
          case measure => exact meas_drop rfl (by go_num) hmeas.out
        · rw [if_neg hcmp] at hp
          have HPU := Lib.hid hp
          have hcz : ¬ ((i : Int) - (hole : Int)) % m ≤ ((i : Int) - (x.home : Int)) % m := by rw [dst_sub hhole hi, dst_sub hxhome hi]; omega
          clear hp hu hcmp hiF
          go_wp2_with fail
          go_quiet (fail)
          go_wp2_with fail
          go_roundw
          case rel =>
            refine ⟨M, hole, (i + 1) % m, f, HMM.out, hhole, Nat.mod_lt _ h0, rfl, by go_num, Lib.hid (hT.out.heap rfl rfl), Lib.hid (hN.out.drewN _), HPU, hH, hne2, hZ, ?_, ?_⟩
            · refine Lib.hid ?_
              have h1 := hmeas.out
              have h2 := hf.out
              omega
            · refine Lib.hid ?_
              have h1 := hmeas.out
              have h2 := hD.out
              omega
          case measure => exact meas_drop rfl (by go_num) hmeas.out
end Go.Proofs.Ytakhofmnldlppaa
