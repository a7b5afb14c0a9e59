/- The contract of the reference's Drop. Conditions: a table in order. -/
import Derived.Test.YtakhofmnldlppaaRf
namespace Go.Proofs.Ytakhofmnldlppaa
open Go.RowKit

def RDropPost (w : World) (g : Nat) (most : Nat) (p : Bool × List S × Nat) (e : Ending) (w' : World) : Prop :=
  ∃ g', e = .returned (.tuple #[.bool p.1, .agg #[.slice (some ⟨g', 0, none⟩) p.2.1.length p.2.1.length, .int .i64 most]]) ∧ RefAt w' g' p.2.1 ∧ (g' = g ∨ w.heap.size ≤ g') ∧ Below w.heap.size w w'
theorem rhome_m (w : World) (g m : Nat) (h0 : 1 ≤ m) (h1 : m ≤ 2048) (mv : Int) (s : ByteArray) (hs : s.size ≤ 9223372036854775807) (k : Nat) (hk : k = txt s % m) :
    Calls Try.prog 28 #[.agg #[.slice (some ⟨g, 0, none⟩) m m, .int .i64 mv], .string s] w fun e w' => e = .returned (.int .i64 k) ∧ Below w.heap.size w w' := by
  have h := rhome_any w g (blank m) (by rw [len_blank]; exact h0) (by rw [len_blank]; exact h1) mv s hs
  rw [len_blank] at h
  have e : hm (blank m) s = k := by unfold hm; rw [len_blank, hk]
  rw [e] at h
  exact h
theorem set3_other {w : World} {g p q k : Nat} {v0 v1 v2 u : Value} (hne : p ≠ q) (hk : k < 3) (h : w.cell? ⟨g, q * 3 + k, none⟩ = some u) :
    (((w.setCell ⟨g, p * 3, none⟩ v0).setCell ⟨g, p * 3 + 1, none⟩ v1).setCell ⟨g, p * 3 + 2, none⟩ v2).cell? ⟨g, q * 3 + k, none⟩ = some u := by
  have e : ∀ j, j < 3 → (⟨g, p * 3 + j, none⟩ : Addr) ≠ ⟨g, q * 3 + k, none⟩ := fun j hj he => by
    injection he with _ he
    omega
  rw [World.cell?_setCell_other _ _ _ _ (e 2 (by decide)), World.cell?_setCell_other _ _ _ _ (e 1 (by decide)), show (⟨g, p * 3, none⟩ : Addr) = ⟨g, p * 3 + 0, none⟩ from rfl, World.cell?_setCell_other _ _ _ _ (e 0 (by decide))]
  exact h
theorem set3_other0 {w : World} {g p q : Nat} {v0 v1 v2 u : Value} (hne : p ≠ q) (h : w.cell? ⟨g, q * 3, none⟩ = some u) :
    (((w.setCell ⟨g, p * 3, none⟩ v0).setCell ⟨g, p * 3 + 1, none⟩ v1).setCell ⟨g, p * 3 + 2, none⟩ v2).cell? ⟨g, q * 3, none⟩ = some u := set3_other (k := 0) hne (by decide) h
theorem set3_far {w : World} {b c i j k l : Nat} {u v y x : Value} (hne : c ≠ b) (h : w.cell? ⟨b, i, none⟩ = some x) : (((w.setCell ⟨c, j, none⟩ u).setCell ⟨c, k, none⟩ v).setCell ⟨c, l, none⟩ y).cell? ⟨b, i, none⟩ = some x :=
  (World.cell?_setCell_far _ _ _ _ hne).trans (set2_far hne h)
/-- What the slots behind a hole keep. -/
structure Keeps (M : List S) (m : Nat) : Prop where
  len : M.length = m
  home : ∀ x ∈ M, x.home < m
  own : ∀ x ∈ M, x.used = true → x.home = txt x.key % m
  fit : ∀ x ∈ M, x.used = true → x.key.size ≤ 9223372036854775807
theorem Keeps.set {M : List S} {m : Nat} (h : Keeps M m) {x : S} (hx : x ∈ M) (i : Nat) : Keeps (M.set i x) m := by
  refine ⟨by rw [List.length_set]; exact h.len, ?_, ?_, ?_⟩
  · intro y hy
    rcases List.mem_or_eq_of_mem_set hy with h1 | rfl
    · exact h.home y h1
    · exact h.home y hx
  · intro y hy hu
    rcases List.mem_or_eq_of_mem_set hy with h1 | rfl
    · exact h.own y h1 hu
    · exact h.own y hx hu
  · intro y hy hu
    rcases List.mem_or_eq_of_mem_set hy with h1 | rfl
    · exact h.fit y h1 hu
    · exact h.fit y hx hu
theorem keeps_good {L : List S} {most n : Nat} (G : Good L most n) : Keeps L L.length := by
  refine ⟨rfl, G.home, G.own, fun x hx hu => ?_⟩
  obtain ⟨q, hq, rfl⟩ := mem_ix hx
  exact G.fit _ (mem_keysP.2 ⟨q, hq, hu, rfl⟩)
set_option maxRecDepth 100000 in
set_option maxHeartbeats 4000000 in
theorem rdrop_any {w : World} {g : Nat} {L : List S} {most n : Nat} (h : RefAt w g L) (G : Good L most n) (s : ByteArray) :
    Calls Try.prog 18 #[.agg #[.slice (some ⟨g, 0, none⟩) L.length L.length, .int .i64 most], .string s] w fun e w' => RDropPost w g most (dropP L n s) e w' := by
  obtain ⟨m, hml⟩ : ∃ m, L.length = m := ⟨_, rfl⟩
  have hgl := h.lt
  have hba : Below w.heap.size w (w.alloc (.cells #[.slice (some ⟨g, 0, none⟩) m m, .int .i64 most] 43)) := (Below.refl _ _).alloc (Nat.le_refl _) _
  have hbb : Below (w.alloc (.cells #[.slice (some ⟨g, 0, none⟩) m m, .int .i64 most] 43)).heap.size (w.alloc (.cells #[.slice (some ⟨g, 0, none⟩) m m, .int .i64 most] 43)) ((w.alloc (.cells #[.slice (some ⟨g, 0, none⟩) m m, .int .i64 most] 43)).alloc (.cells #[.slice none 0 0, .int .i64 0] 43)) := (Below.refl _ _).alloc (Nat.le_refl _) _
  have hsz1 : (w.alloc (.cells #[.slice (some ⟨g, 0, none⟩) m m, .int .i64 most] 43)).heap.size = w.heap.size + 1 := size_alloc _ _
  have hRS : RS w ((w.alloc (.cells #[.slice (some ⟨g, 0, none⟩) m m, .int .i64 most] 43)).alloc (.cells #[.slice none 0 0, .int .i64 0] 43)) w.heap.size g L m most := by
    refine ⟨hba.trans (hbb.mono hba.size), Nat.le_refl _, by omega, by omega, (hbb.block _ (by omega)).trans (heap_alloc_new w _), ?_, (h.below hba).below hbb⟩
    have := heap_alloc_new (w.alloc (.cells #[.slice (some ⟨g, 0, none⟩) m m, .int .i64 most] 43)) (.cells #[.slice none 0 0, .int .i64 0] 43)
    rw [hsz1] at this
    exact this
  have h0 : 1 ≤ m := by have := G.two.1; have := G.most1; omega
  have h1 : m ≤ 2048 := by rw [← hml]; exact G.two.2
  have HM := Lib.hid hml
  have HG := Lib.hid G
  obtain ⟨z0, z1, _, _⟩ := zero_two hRS.box
  have HR := Lib.hid hRS
  rw [hml]
  clear h hgl hba hbb hsz1 hRS hml G
  go_enter Try.func18, Try.ntmps18
  go_wp2_with fail
  obtain ⟨wa, hwa⟩ : ∃ wa, wa = (w.alloc (.cells #[.slice (some ⟨g, 0, none⟩) m m, .int .i64 most] 43)).alloc (.cells #[.slice none 0 0, .int .i64 0] 43) := ⟨_, rfl⟩
  rw [← hwa] at z0 z1 HR ⊢
  clear hwa
  have hat := rat_any HR.out.ref HG.out (most : Int) s
  rw [HM.out] at hat
  refine (hat).mono ?_
  rintro e w1 ⟨rfl, hB⟩
  have HR1 := Lib.hid (HR.out.next hB)
  clear hB HR z0 z1 hat
  by_cases hmem : s ∈ keysP L
  · obtain ⟨p, hp, hpu, hpk⟩ := mem_keysP.1 hmem
    have hsl := (slot_here HG.out hmem).1
    have hset := dropP_there HG.out hp hpu
    have hhit := HG.out.hit hp hpu
    rw [hpk] at hset hhit
    rw [hhit] at hsl
    rw [hsl]
    rw [HM.out] at hset
    have HSET := Lib.hid hset
    obtain ⟨F, hF, hFu⟩ := HG.out.free
    have hFp : p ≠ F := fun e => by rw [e, hFu] at hpu; cases hpu
    rw [HM.out] at hp hF
    have HIX := Lib.hid (ix_get (L := L) (q := p) (by rw [HM.out]; exact hp))
    have HFU := Lib.hid hFu
    have HFP := Lib.hid hFp
    have hp0 : (0 : Int) ≤ (p : Int) := by omega
    have hp1 : (p : Int) < (m : Int) := by omega
    have hne0 : (m : Int) ≠ 0 := by omega
    clear hmem hpu hpk hsl hset hhit hFu hFp
    obtain ⟨y0, y1, _, _⟩ := zero_two HR1.out.box
    go_wp2_with fail
    have hcp := copied_any HR1.out.ref (by rw [HM.out]; exact h1) (most : Int)
    rw [HM.out] at hcp
    refine (hcp).mono ?_
    rintro e w2 ⟨g2, he, hr, hg2, hB⟩
    rw [HM.out] at he
    subst he
    have HR2 := Lib.hid (HR1.out.swap hB hr hg2)
    have HG2 := Lib.hid (show w.heap.size ≤ g2 from Nat.le_trans HR1.out.below.size hg2)
    obtain ⟨x0, x1, x2, x3⟩ := zero_two (HR1.out.next hB).box
    clear hB hr hg2 HR1 y0 y1 hcp
    go_upto_region 5 with fail
    obtain ⟨w3, hw3⟩ : ∃ w3, w3 = ((w2.setCell ⟨w.heap.size, 0, none⟩ (.slice (some ⟨g2, 0, none⟩) m m)).setCell ⟨w.heap.size, 1, none⟩ (.int .i64 most)) := ⟨_, rfl⟩
    rw [← hw3] at HR2 ⊢
    clear hw3 x0 x1 x2 x3
    obtain ⟨x0, x1, x2, x3⟩ := zero_two HR2.out.box
    obtain ⟨a0, a1, a2⟩ := HR2.out.ref.at HIX.out
    have e0 := HR2.out.ref.free (p * 3)
    have e1 := HR2.out.ref.free (p * 3 + 1)
    have e2 := HR2.out.ref.free (p * 3 + 2)
    go_upto_region 6 with fail
    have hr := HR2.out.ref.put3 HIX.out zeroS
    obtain ⟨w4, hw4⟩ : ∃ w4, w4 = (((w3.setCell ⟨g2, p * 3, none⟩ (.bool false)).setCell ⟨g2, p * 3 + 1, none⟩ (.string ⟨#[]⟩)).setCell ⟨g2, p * 3 + 2, none⟩ (.int .i64 0)) := ⟨_, rfl⟩
    have hw : RS w w4 w.heap.size g2 (L.set p zeroS) m most := by rw [hw4]; exact HR2.out.write3 HG2.out _ _ _ _ _ _ hr
    rw [← hw4]
    have HW := Lib.hid hw
    clear hw4 hw hr x0 x1 x2 x3 a0 a1 a2 e0 e1 e2 HR2
    obtain ⟨x0, x1, x2, x3⟩ := zero_two HW.out.box
    have hwp := wrap_next hp h1
    go_wp2_with fail
    go_loopw [6, 7] (fun v6 v7 wr => ∃ (M : List S) (hole i f : Nat), hole < m ∧ i < m ∧ v6 = .int .i64 hole ∧ v7 = .int .i64 i ∧ Hid (RS w wr w.heap.size g2 (M.set hole zeroS) m most) ∧ Hid (pull M f hole i = pull L m p ((p + 1) % m)) ∧ Hid (Keeps M m) ∧ Hid (hole ≠ F) ∧ Hid ((ix M F).used = false) ∧ Hid (dst m i F < f) ∧ Hid (dst m i F < dst m hole F)) (fun _ v7 _ => dst m (intOf v7).toNat F)
    case atStart =>
      refine ⟨L, p, (p + 1) % m, m, hp, Nat.mod_lt _ h0, rfl, by go_num, HW, Lib.hid rfl, Lib.hid (by have h := keeps_good HG.out; rw [HM.out] at h; exact h), HFP, HFU, Lib.hid (dst_lt h0), Lib.hid (by have := dst_next hp hF HFP.out; omega)⟩
    case round =>
      obtain ⟨M, hole, i, f, hhole, hi, rfl, rfl, hR, hP, hK, hne2, hZ, hf, hD⟩ := hrel
      clear HW x0 x1 x2 x3 hwp
      obtain ⟨x0, x1, x2, x3⟩ := zero_two hR.out.box
      obtain ⟨x, hx⟩ : ∃ x, x = ix M i := ⟨_, rfl⟩
      have hih : hole ≠ i := fun e => by have := hD.out; rw [e] at this; exact Nat.lt_irrefl _ this
      have hgi : M[i]? = some x := by rw [hx]; exact ix_get (by rw [hK.out.len]; exact hi)
      have hgN : (M.set hole zeroS)[i]? = some x := by rw [List.getElem?_set_ne hih]; exact hgi
      have hgH : (M.set hole zeroS)[hole]? = some zeroS := List.getElem?_set_self (by rw [hK.out.len]; exact hhole)
      obtain ⟨a0, a1, a2⟩ := hR.out.ref.at hgN
      have hi0 : (0 : Int) ≤ (i : Int) := by omega
      have hi1 : (i : Int) < (m : Int) := by omega
      have hh0 : (0 : Int) ≤ (hole : Int) := by omega
      have hh1 : (hole : Int) < (m : Int) := by omega
      have HGI := Lib.hid hgi
      have HGN := Lib.hid hgN
      have HGH := Lib.hid hgH
      have HX := Lib.hid hx
      have HIH := Lib.hid hih
      obtain ⟨f, rfl⟩ : ∃ f', f = f' + 1 := ⟨f - 1, by have := hf.out; omega⟩
      have hpl := hP.out
      rw [pull, hgi] at hpl
      simp only at hpl
      clear hgi hgN hgH hx hih hP
      cases hu : x.used with
      | false =>
        rw [hu, if_neg Bool.false_ne_true] at hpl
        rw [hu] at a0
        have HPU := Lib.hid hpl
        clear hpl hu
        go_wp2_with fail
        obtain ⟨d0, d1, d2, d3⟩ := zero_two (hR.out.box)
        obtain ⟨f0, f1, f2, f3⟩ := zero_two (hR.out.out)
        have hne : w.heap.size + 1 ≠ w.heap.size := by omega
        have HFIN := Lib.hid hR.out.fin
        go_region_held3 (fun w' => w'.cell? ⟨w.heap.size, 0, none⟩ = some (.slice (some ⟨g2, 0, none⟩) m m) ∧ w'.cell? ⟨w.heap.size, 1, none⟩ = some (.int .i64 most))
          ((go_split_ands; (try dsimp only); (refine ⟨?_, ?_⟩ <;> first | (with_reducible assumption) | (with_reducible exact drew_keep (by assumption)) | (with_reducible exact drew_keep (set2_far hne (by assumption))))))
          (first | fail)
        go_wp2
        refine bodyPost_ret (results_tmp_cell_row rfl _ _ (w.heap.size + 1) 43 _ (0, 0) _ rfl HFIN.out.1 Try.underlying43 rfl info43) rfl ?_
        have hpp := HSET.out
        rw [← HPU.out] at hpp
        simp only at hpp
        exact ⟨g2, by rw [hpp]; simp only [List.length_set]; rw [hK.out.len]; rfl, by rw [hpp]; exact HFIN.out.2.1, .inr HG2.out, HFIN.out.2.2⟩
      | true =>
        rw [hu, if_pos rfl, hK.out.len] at hpl
        rw [hu] at a0
        have hiF : i ≠ F := fun e => by
          have h2 := hZ.out
          rw [← e, ← HX.out, hu] at h2
          cases h2
        have HIF := Lib.hid hiF
        have HU := Lib.hid hu
        have hmx := List.mem_of_getElem? HGI.out
        have hxh := hK.out.home x hmx
        have HOWN := Lib.hid (hK.out.own x hmx hu)
        have HFIT := Lib.hid (hK.out.fit x hmx hu)
        have HMX := Lib.hid hmx
        have hmeas := Lib.hid (dst_next hi hF hiF)
        have hwn := wrap_next hi h1
        have hbm := btw_move (x := x.home) hxh hhole hi
        by_cases hcmp : dst m hole i ≤ dst m x.home i
        · rw [if_pos hcmp] at hpl
          rw [decide_eq_true hcmp] at hbm
          have HBT := Lib.hid (show btw m x.home hole i = false from by simpa using hbm)
          have HPU := Lib.hid hpl
          clear hpl hu hcmp hiF hbm hmx
          go_wp2_with fail
          go_region_held3 (fun w' => w'.cell? ⟨w.heap.size, 0, none⟩ = some (.slice (some ⟨g2, 0, none⟩) m m) ∧ w'.cell? ⟨w.heap.size, 1, none⟩ = some (.int .i64 most) ∧ w'.cell? ⟨g2, i * 3 + 1, none⟩ = some (.string x.key))
            ((go_split_ands; (try dsimp only); (refine ⟨?_, ?_, ?_⟩ <;> first | (with_reducible assumption) | (with_reducible exact drew_keep (by assumption)) | (with_reducible exact cell_keep b29 (by assumption)) | (with_reducible exact cell_keep b28 (by assumption)))))
            (first
              | (go_at_call 29; refine (rbetween_any v28 g2 m h1 (most : Int) x.home hole i hxh hhole hi).mono ?_; rintro e v29 ⟨rfl, b29⟩; rw [HBT.out])
              | (go_at_call 28; refine (rhome_m _ g2 m h0 h1 (most : Int) x.key HFIT.out x.home HOWN.out).mono ?_; rintro e v28 ⟨rfl, b28⟩))
          rename_i hHeld
          have hRb := (hR.out.next (below_undrew b28)).next b29
          have HRb := Lib.hid hRb
          clear hHeld b28 b29 hR x0 x1 x2 x3 a0 a1 a2 hRb
          obtain ⟨x0, x1, x2, x3⟩ := zero_two HRb.out.box
          obtain ⟨p0, p1, p2⟩ := HRb.out.ref.at HGN.out
          obtain ⟨q0, q1, q2⟩ := HRb.out.ref.at HGH.out
          have r0 := HRb.out.ref.free (hole * 3)
          have r1 := HRb.out.ref.free (hole * 3 + 1)
          have r2 := HRb.out.ref.free (hole * 3 + 2)
          have hgb : g2 ≠ w.heap.size := HRb.out.n1
          rw [HU.out] at p0
          go_wp2_with fail
          go_region_held3 (fun w' => w'.cell? ⟨w.heap.size, 0, none⟩ = some (.slice (some ⟨g2, 0, none⟩) m m) ∧ w'.cell? ⟨g2, i * 3, none⟩ = some (.bool true) ∧ w'.cell? ⟨g2, i * 3 + 1, none⟩ = some (.string x.key) ∧ w'.cell? ⟨g2, i * 3 + 2, none⟩ = some (.int .i64 x.v))
            ((go_split_ands; (try dsimp only); (refine ⟨?_, ?_, ?_, ?_⟩ <;> first | (with_reducible assumption) | (with_reducible exact drew_keep (by assumption)) | (with_reducible exact drew_keep (set3_far hgb (by assumption))) | (with_reducible exact drew_keep (set3_other0 HIH.out (by assumption))) | (with_reducible exact drew_keep (set3_other HIH.out (by decide) (by assumption))))))
            (first | fail)
          rename_i hHeld
          have hr := HRb.out.ref.put3 HGH.out x
          rw [HU.out, List.set_set] at hr
          obtain ⟨w6, hw6⟩ : ∃ w6, w6 = (((v29.setCell ⟨g2, hole * 3, none⟩ (.bool true)).setCell ⟨g2, hole * 3 + 1, none⟩ (.string x.key)).setCell ⟨g2, hole * 3 + 2, none⟩ (.int .i64 x.v)).drew := ⟨_, rfl⟩
          have hw : RS w w6 w.heap.size g2 (M.set hole x) m most := by rw [hw6]; exact (HRb.out.write3 HG2.out _ _ _ _ _ _ hr).next ((Below.refl _ _).drew)
          rw [← hw6]
          have HW6 := Lib.hid hw
          have HGM := Lib.hid (show (M.set hole x)[i]? = some x from by rw [List.getElem?_set_ne HIH.out]; exact HGI.out)
          clear hHeld hw6 hw hr x0 x1 x2 x3 p0 p1 p2 q0 q1 q2 r0 r1 r2 hgb HRb
          obtain ⟨x0, x1, x2, x3⟩ := zero_two HW6.out.box
          obtain ⟨p0, p1, p2⟩ := HW6.out.ref.at HGM.out
          have r0 := HW6.out.ref.free (i * 3)
          have r1 := HW6.out.ref.free (i * 3 + 1)
          have r2 := HW6.out.ref.free (i * 3 + 2)
          go_upto_region 11 with fail
          have hr := HW6.out.ref.put3 HGM.out zeroS
          obtain ⟨w7, hw7⟩ : ∃ w7, w7 = (((w6.setCell ⟨g2, i * 3, none⟩ (.bool false)).setCell ⟨g2, i * 3 + 1, none⟩ (.string ⟨#[]⟩)).setCell ⟨g2, i * 3 + 2, none⟩ (.int .i64 0)) := ⟨_, rfl⟩
          have hw : RS w w7 w.heap.size g2 ((M.set hole x).set i zeroS) m most := by rw [hw7]; exact HW6.out.write3 HG2.out _ _ _ _ _ _ hr
          rw [← hw7]
          have HW7 := Lib.hid hw
          clear hw7 hw hr x0 x1 x2 x3 p0 p1 p2 r0 r1 r2 HW6
          obtain ⟨x0, x1, x2, x3⟩ := zero_two HW7.out.box
          go_wp2_with fail
          go_roundw
          case rel =>
            refine ⟨M.set hole x, i, (i + 1) % m, f, hi, Nat.mod_lt _ h0, rfl, by go_num, HW7, HPU, Lib.hid (hK.out.set HMX.out hole), HIF, ?_, ?_, ?_⟩
            · refine Lib.hid ?_
              rw [ix_set _ (by rw [hK.out.len]; exact hhole), if_neg hne2.out]
              exact hZ.out
            · refine Lib.hid ?_
              have h1 := hmeas.out
              have h2 := hf.out
              omega
            · refine Lib.hid ?_
              have h1 := hmeas.out
              omega
          case measure => exact meas_drop rfl (by go_num) hmeas.out
        · rw [if_neg hcmp] at hpl
          rw [decide_eq_false hcmp] at hbm
          have HBT := Lib.hid (show btw m x.home hole i = true from by simpa using hbm)
          have HPU := Lib.hid hpl
          clear hpl hu hcmp hiF hbm hmx
          go_wp2_with fail
          go_region_held3 (fun w' => w'.cell? ⟨w.heap.size, 0, none⟩ = some (.slice (some ⟨g2, 0, none⟩) m m) ∧ w'.cell? ⟨w.heap.size, 1, none⟩ = some (.int .i64 most) ∧ w'.cell? ⟨g2, i * 3 + 1, none⟩ = some (.string x.key))
            ((go_split_ands; (try dsimp only); (refine ⟨?_, ?_, ?_⟩ <;> first | (with_reducible assumption) | (with_reducible exact drew_keep (by assumption)) | (with_reducible exact cell_keep b29 (by assumption)) | (with_reducible exact cell_keep b28 (by assumption)))))
            (first
              | (go_at_call 29; refine (rbetween_any v28 g2 m h1 (most : Int) x.home hole i hxh hhole hi).mono ?_; rintro e v29 ⟨rfl, b29⟩; rw [HBT.out])
              | (go_at_call 28; refine (rhome_m _ g2 m h0 h1 (most : Int) x.key HFIT.out x.home HOWN.out).mono ?_; rintro e v28 ⟨rfl, b28⟩))
          rename_i hHeld
          have hRb := (hR.out.next (below_undrew b28)).next b29
          have HRb := Lib.hid hRb
          clear hHeld b28 b29 hR x0 x1 x2 x3 a0 a1 a2 hRb
          obtain ⟨x0, x1, x2, x3⟩ := zero_two HRb.out.box
          go_wp2_with fail
          go_roundw
          case rel =>
            refine ⟨M, hole, (i + 1) % m, f, hhole, Nat.mod_lt _ h0, rfl, by go_num, HRb, HPU, hK, hne2, hZ, ?_, ?_⟩
            · refine Lib.hid ?_
              have h1 := hmeas.out
              have h2 := hf.out
              omega
            · refine Lib.hid ?_
              have h1 := hmeas.out
              have h2 := hD.out
              omega
          case measure => exact meas_drop rfl (by go_num) hmeas.out
  · rw [slot_neg HG.out hmem]
    have HSET := Lib.hid (dropP_gone HG.out hmem)
    clear hmem
    go_wp2_with fail
    obtain ⟨d0, d1, d2, d3⟩ := zero_two (HR1.out.box)
    obtain ⟨f0, f1, f2, f3⟩ := zero_two (HR1.out.out)
    have hne : w.heap.size + 1 ≠ w.heap.size := by omega
    have HFIN := Lib.hid HR1.out.fin
    go_region_held3 (fun w' => w'.cell? ⟨w.heap.size, 0, none⟩ = some (.slice (some ⟨g, 0, none⟩) m m) ∧ w'.cell? ⟨w.heap.size, 1, none⟩ = some (.int .i64 most))
      ((go_split_ands; (try dsimp only); (refine ⟨?_, ?_⟩ <;> first | (with_reducible assumption) | (with_reducible exact drew_keep (by assumption)) | (with_reducible exact drew_keep (set2_far hne (by assumption))))))
      (first | fail)
    go_wp2
    refine bodyPost_ret (results_tmp_cell_row rfl _ _ (w.heap.size + 1) 43 _ (0, 0) _ rfl HFIN.out.1 Try.underlying43 rfl info43) rfl ?_
    exact ⟨g, by rw [HSET.out]; simp only; rw [HM.out]; rfl, by rw [HSET.out]; exact HFIN.out.2.1, .inl rfl, HFIN.out.2.2⟩
end Go.Proofs.Ytakhofmnldlppaa
