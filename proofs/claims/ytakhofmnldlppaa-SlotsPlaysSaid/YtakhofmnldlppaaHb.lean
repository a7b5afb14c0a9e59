/- The walk of SlotsHome. Conditions: the row lies as Go's slices do. -/
import Derived.Test.YtakhofmnldlppaaHa
namespace Go.Proofs.Ytakhofmnldlppaa
open Go.RowKit Go.Maps Go.WideMaps

/-- A table, and a box with a slice as long, that lie apart from each other, behind what was there. -/
structure Sit (w0 w : World) (b g x gr : Nat) (L : List S) (most n : Nat) : Prop where
  below : Below w0.heap.size w0 w
  b0 : w0.heap.size ≤ b
  g0 : w0.heap.size ≤ g
  x0 : w0.heap.size ≤ x
  n1 : x ≠ b
  n2 : x ≠ g
  tb : Tb w b g L most n
  box : w.heap[x]? = some (.cells #[.slice (some ⟨gr, 0, none⟩) (slotsFor most) (slotsFor most), .int .i64 most] 43 (0, 0))
theorem Sit.next {w0 w w' : World} {b g x gr : Nat} {L : List S} {most n : Nat} (h : Sit w0 w b g x gr L most n) (k : Below w.heap.size w w') : Sit w0 w' b g x gr L most n :=
  ⟨h.below.trans (k.mono h.below.size), h.b0, h.g0, h.x0, h.n1, h.n2, h.tb.below k, (k.block _ (lt_of_block h.box)).trans h.box⟩
theorem Sit.turn {w0 w w' : World} {b g x gr : Nat} {L L' : List S} {most n n' : Nat} (h : Sit w0 w b g x gr L most n) (k : Near w w' b g) (t : Tb w' b g L' most n') : Sit w0 w' b g x gr L' most n' :=
  ⟨h.below.trans (k.below h.below.size h.b0 h.g0), h.b0, h.g0, h.x0, h.n1, h.n2, t, (k.block _ (lt_of_block h.box) h.n1 h.n2).trans h.box⟩
theorem Sit.put {w0 w w' : World} {b g x gr m : Nat} {L : List S} {most n : Nat} (h : Sit w0 w b g x gr L most n) (hg : w.grownBy w' (some m)) (h0 : w0.heap.size ≤ m) (h1 : m ≠ b) (h2 : m ≠ g) (h3 : m ≠ x) : Sit w0 w' b g x gr L most n := by
  refine ⟨h.below.grown hg h.below.size (fun q hq => by injection hq with hq; rw [← hq]; exact h0), h.b0, h.g0, h.x0, h.n1, h.n2, ⟨h.tb.at'.heap ?_ ?_, h.tb.good⟩, ?_⟩
  · exact hg.block _ h.tb.at'.ltb (fun e => h1 (by injection e with e; exact e.symm))
  · exact hg.block _ h.tb.at'.ltg (fun e => h2 (by injection e with e; exact e.symm))
  · exact (hg.block _ (lt_of_block h.box) (fun e => h3 (by injection e with e; exact e.symm))).trans h.box
theorem Sit.cell {w0 w : World} {b g x gr : Nat} {L : List S} {most n : Nat} (h : Sit w0 w b g x gr L most n) : w.cell? ⟨x, 0, none⟩ = some (.slice (some ⟨gr, 0, none⟩) (slotsFor most) (slotsFor most)) := by
  rw [cell_of_row w x 0 _ _ _ h.box]; rfl
theorem StrB.grown {w w' : World} {B m : Nat} {A : Option Addr} {l : List ByteArray} (h : StrB w B A l) (hg : w.grownBy w' (some m)) (hm : m < B) : StrB w' B A l := fun j s hs => by
  obtain ⟨q, e, h1, h0⟩ := h j s hs
  exact ⟨q, e, h1, hg.cell h0 (fun k => by injection k with k; simp only at k; omega)⟩
theorem StrB.low {w : World} {B B' : Nat} {A : Option Addr} {l : List ByteArray} (h : StrB w B A l) (hb : B' ≤ B) : StrB w B' A l := fun j s hs => by
  obtain ⟨q, e, h1, h0⟩ := h j s hs
  exact ⟨q, e, Nat.le_trans hb h1, h0⟩
theorem rtext_below (s : ByteArray) (hs : s.size ≤ 9223372036854775807) (w : World) : Calls Try.prog 24 #[.string s] w fun e w' => e = .returned (.int .u64 (txt s)) ∧ Below w.heap.size w w' := (rtext_any s hs w).mono (by rintro e w' ⟨rfl, rfl⟩; exact ⟨rfl, Below.refl _ _⟩)
set_option maxRecDepth 100000 in
set_option maxHeartbeats 8000000 in
theorem slotsHome_walk (n : Nat) (hn : n ≤ 65535) (A : Option Addr) (c : Nat) (l : List OpV) (w : World) (h : OpsA w A c l) (h1 : l.length ≤ 9223372036854775807) :
    Calls Try.prog 5 #[.int .u16 n, .slice A l.length c] w fun e w' => TruePost w e w' := by
  have hmm := @run_makeMap Try.prog
  have HA := Lib.hid h
  have H1 := Lib.hid h1
  clear h h1
  go_enter Try.func5, Try.ntmps5
  go_wp2_with fail
  obtain ⟨K, hK⟩ : ∃ K : Nat, 1 + (n : Int) % 200 = (K : Int) := ⟨1 + n % 200, by omega⟩
  have hK0 : 1 ≤ K := by omega
  have hK1 : K ≤ 1024 := by omega
  rw [hK]
  refine (new_tb K hK0 hK1 w).mono ?_
  rintro e w1 ⟨b, g, rfl, ht, l1, l2', hB⟩
  have HT := Lib.hid ht
  have HB := Lib.hid hB
  have HL := Lib.hid (And.intro l1 l2')
  clear ht hB l1 l2'
  go_wp2_with fail
  refine (rnew_any K hK0 hK1 w1).mono ?_
  rintro e w2 ⟨gr, rfl, _, hg0, hB⟩
  have hbt := (HT.out.below hB).at'.ltb
  have hgt := (HT.out.below hB).at'.ltg
  have hS : Sit w (w2.alloc (.cells #[.slice (some ⟨gr, 0, none⟩) (slotsFor K) (slotsFor K), .int .i64 K] 43)) b g w2.heap.size gr (blank (slotsFor K)) K 0 :=
    ⟨(HB.out.trans (hB.mono HB.out.size)).alloc (Nat.le_trans HB.out.size hB.size) _, HL.out.1, HL.out.2, Nat.le_trans HB.out.size hB.size, Nat.ne_of_gt hbt, Nat.ne_of_gt hgt, (HT.out.below hB).below ((Below.refl _ _).alloc (Nat.le_refl _) _), heap_alloc_new w2 _⟩
  have HS := Lib.hid hS
  have HMM := Lib.hid (show slotsFor K ≤ 2048 ∧ 1 ≤ slotsFor K from by
    have h1 := (good_blank hK0 hK1).two
    rw [len_blank] at h1
    omega)
  clear hS hB hbt hgt hg0 HT HB HL
  go_wp2_with fail
  refine (fixed_any _).mono ?_
  rintro e w3 ⟨rfl, hB⟩
  have HS3 := Lib.hid (HS.out.next hB)
  obtain ⟨bx, hbx⟩ : ∃ bx, w2.heap.size = bx := ⟨_, rfl⟩
  rw [hbx] at HS3 ⊢
  clear hB HS hbx
  go_wp2_with fail
  refine (cut_any (HA.out.below HS3.out.below) H1.out).mono ?_
  rintro e w4 ⟨kc, hol, rfl, hB⟩
  obtain ⟨ops, hopse⟩ : ∃ ops, l.take kc = ops := ⟨_, rfl⟩
  have hops := HA.out.take kc
  rw [hopse] at hops hol ⊢
  have HO := Lib.hid hops
  have HS4 := Lib.hid (HS3.out.next hB)
  obtain ⟨m, hm⟩ : ∃ m, ops.length = m := ⟨_, rfl⟩
  rw [hm] at hol ⊢
  have HM := Lib.hid hm
  clear hB HS3 hops hm hopse HA H1
  go_wp2_with fail
  go_loopw [42] (fun i wr => ∃ (k : Nat) (L : List S) (n : Nat), k ≤ m ∧ i = .int .i64 k ∧ Hid (Sit w wr b g bx gr L K n)) (fun i _ => m - (intOf i).toNat)
  case atStart => exact ⟨0, _, _, Nat.zero_le _, rfl, HS4⟩
  case round =>
    obtain ⟨k, L, n, hk, rfl, hS⟩ := hrel
    clear HS4
    by_cases hlt : k < m
    · obtain ⟨o, ho⟩ : ∃ o, ops[k]? = some o := ⟨_, List.getElem?_eq_getElem (by rw [HM.out]; exact hlt)⟩
      have HOK := Lib.hid (HO.out.ok o (List.mem_of_getElem? ho))
      obtain ⟨q, f, rfl, a0, a1, a2⟩ := (HO.out.below hS.out.below).row k o ho
      have hk0 : (0 : Int) ≤ (k : Int) := by omega
      have hkn : (k : Int) < (m : Int) := by omega
      obtain ⟨kind, v1, key1⟩ := o
      simp only at a0 a1 a2
      have q0 : (wr.alloc (.cells #[.int .i64 kind, .int .i64 v1, .string key1] 32)).cell? ⟨wr.heap.size, 0, none⟩ = some (.int .i64 kind) := cell_new rfl _ _ 0
      have q1 : (wr.alloc (.cells #[.int .i64 kind, .int .i64 v1, .string key1] 32)).cell? ⟨wr.heap.size, 1, none⟩ = some (.int .i64 v1) := cell_new rfl _ _ 1
      have q2 : (wr.alloc (.cells #[.int .i64 kind, .int .i64 v1, .string key1] 32)).cell? ⟨wr.heap.size, 2, none⟩ = some (.string key1) := cell_new rfl _ _ 2
      have hba : Below wr.heap.size wr (wr.alloc (.cells #[.int .i64 kind, .int .i64 v1, .string key1] 32)) := (Below.refl _ _).alloc (Nat.le_refl _) _
      have HS6 := Lib.hid (hS.out.next hba)
      clear hS hba ho
      by_cases h1 : kind = 1
      · subst h1
        go_wp2_with fail
        refine (drop_tb HS6.out.tb key1 HOK.out.1).mono ?_
        rintro e w7 ⟨rfl, ht, hN⟩
        have HS7 := Lib.hid (HS6.out.turn hN ht)
        clear ht hN HS6 a0 a1 a2 q0 q1 q2
        go_wp2_with fail
        go_roundw
        case rel => exact ⟨k + 1, _, _, by omega, by go_num, HS7⟩
        case measure => simp [intOf]; omega
      · have h1z : (kind == 1) = false := beq_eq_false_iff_ne.2 h1
        go_wp2_with fail
        refine (set_tb HS6.out.tb key1 HOK.out.1 v1).mono ?_
        rintro e w7 ⟨rfl, ht, hN⟩
        have HS7 := Lib.hid (HS6.out.turn hN ht)
        clear ht hN HS6 a0 a1 a2 q0 q1 q2
        go_wp2_with fail
        go_roundw
        case rel => exact ⟨k + 1, _, _, by omega, by go_num, HS7⟩
        case measure => simp [intOf]; omega
    · have hkn : ¬ (k : Int) < (m : Int) := by omega
      obtain ⟨wo, hwo⟩ : ∃ wo, wo = wr := ⟨_, rfl⟩
      rw [← hwo] at hS ⊢
      clear hwo HO HM hlt hk
      have hba : Below wo.heap.size wo (wo.alloc (.map #[] 0)) := (Below.refl _ _).alloc (Nat.le_refl _) _
      have HS5 := Lib.hid (hS.out.next hba)
      have HMP := Lib.hid (show MapB (wo.alloc (.map #[] 0)) wo.heap.size 0 (.map []) from World.ownsMap_made wo _ _ _)
      have HNE := Lib.hid (show wo.heap.size ≠ b ∧ wo.heap.size ≠ g ∧ wo.heap.size ≠ bx ∧ w.heap.size ≤ wo.heap.size from ⟨Nat.ne_of_gt hS.out.tb.at'.ltb, Nat.ne_of_gt hS.out.tb.at'.ltg, Nat.ne_of_gt (lt_of_block hS.out.box), hS.out.below.size⟩)
      clear hS hba
      go_wp2_with fail
      obtain ⟨bm, hbm⟩ : ∃ bm, wo.heap.size = bm := ⟨_, rfl⟩
      rw [hbm] at HMP HNE ⊢
      refine (keys_tb HS5.out.tb).mono ?_
      rintro e w7 ⟨kv, rfl, hks, hB⟩
      obtain ⟨KA, kc', rfl, hka0⟩ := hks.reads2
      have hka := hka0.low (B' := bm + 1) (by rw [size_alloc, hbm]; exact Nat.le_refl _)
      have HS7 := Lib.hid (HS5.out.next hB)
      have HMP7 := Lib.hid (mapB_block HMP.out (hB.block _ HMP.out.lt))
      have HKA := Lib.hid hka
      have hkl : (keysP L).length ≤ 2048 := Nat.le_trans (keysP_le _) HS5.out.tb.good.two.2
      obtain ⟨m2, hm2⟩ : ∃ m2, (keysP L).length = m2 := ⟨_, rfl⟩
      rw [hm2] at hkl ⊢
      have HM2 := Lib.hid hm2
      have hq0 : 1 ≤ slotsFor K := HMM.out.2
      have hq1 : slotsFor K ≤ 2048 := HMM.out.1
      clear HS5 HMP hB hks hka hka0 hm2 hbm hmm
      go_wp2_with fail
      go_loopw [64] (fun i wr => ∃ (j : Nat) (D : DataW Unit), j ≤ m2 ∧ i = .int .i64 j ∧ Hid (Sit w wr b g bx gr L K n) ∧ Hid (StrB wr (bm + 1) KA (keysP L)) ∧ Hid (MapB wr bm j D) ∧ Hid (Met D L ((keysP L).take j))) (fun i _ => m2 - (intOf i).toNat)
      case atStart => exact ⟨0, _, Nat.zero_le _, rfl, HS7, HKA, HMP7, Lib.hid (met_none L)⟩
      case round =>
        obtain ⟨j, D, hj, rfl, hS, hKA, hMP, hMT⟩ := hrel
        clear HS7 HKA HMP7
        by_cases hlt : j < m2
        · obtain ⟨s, hs⟩ : ∃ s, (keysP L)[j]? = some s := ⟨_, List.getElem?_eq_getElem (by rw [HM2.out]; exact hlt)⟩
          obtain ⟨q, rfl, _, a0⟩ := hKA.out j s hs
          have hmem := List.mem_of_getElem? hs
          have HSZ := Lib.hid (hS.out.tb.good.fit s hmem)
          obtain ⟨sl1, sl2⟩ := slot_here hS.out.tb.good hmem
          rw [hS.out.tb.good.len] at sl2
          have hno := met_not hS.out.tb.good hs
          have HTN := Lib.hid (take_next hs)
          have hput := met_put hMT.out s
          obtain ⟨p, hp⟩ : ∃ p, (findP L s).1 = p := ⟨_, rfl⟩
          rw [hp] at sl1 sl2 hno hput
          have HSL := Lib.hid sl1
          have HPUT := Lib.hid hput
          have HAT := Lib.hid ((hMT.out.2 p).trans (by rw [hno]))
          have hj0 : (0 : Int) ≤ (j : Int) := by omega
          have hjn : (j : Int) < (m2 : Int) := by omega
          clear hs hmem sl1 hno hput hp
          go_wp2_with fail
          refine (slot_tb hS.out.tb s HSZ.out).mono ?_
          rintro e w8 ⟨rfl, hB⟩
          rw [HSL.out]
          have HS8 := Lib.hid (hS.out.next hB)
          have HK8 := Lib.hid (hKA.out.below hB)
          have hMP8 := mapB_block hMP.out (hB.block _ hMP.out.lt)
          have hrun := mapB_look hMP8 p (by omega) false HAT.out
          have hc0 := HS8.out.cell
          have hp0 : ¬ (p : Int) < 0 := by omega
          have hp1 : ¬ (slotsFor K : Int) ≤ (p : Int) := by omega
          have hkey := ikey_of p (by omega)
          have hjm : j < maxLen := by unfold maxLen; omega
          clear hS hKA hMP hMT hB a0
          go_wp2_with (first
            | (at_mapUpdate; refine wpList_mapUpdate_own _ rfl _ _ _ 55 rfl 3 4 law3 Try.underlying55 _ bm j _ rfl hMP8 hjm _ _ _ rfl rfl hkey _ [] (plainElem_bool Try.underlying4 true) ?_; intro w9 hown9 hgr9)
            | fail)
          have HS9 := Lib.hid (HS8.out.put hgr9 HNE.out.2.2.2 HNE.out.1 HNE.out.2.1 HNE.out.2.2.1)
          have HK9 := Lib.hid (HK8.out.grown hgr9 (Nat.lt_succ_self _))
          have HMP9 := Lib.hid hown9
          have HMT9 : Hid (Met (D.put (ikey p) (.lit (.bool true))) L ((keysP L).take (j + 1))) := Lib.hid (by rw [HTN.out]; exact HPUT.out)
          clear hown9 hgr9 hMP8 hrun hc0 HS8 HK8
          go_wp2_with fail
          go_roundw
          case rel => exact ⟨j + 1, _, by omega, by go_num, HS9, HK9, HMP9, HMT9⟩
          case measure => simp [intOf]; omega
        · have hjn : ¬ (j : Int) < (m2 : Int) := by omega
          obtain ⟨wp, hwp⟩ : ∃ wp, wp = wr := ⟨_, rfl⟩
          rw [← hwp] at hS hMP ⊢
          have HMT := Lib.hid (show Met D L (keysP L) from by have h := hMT.out; rw [List.take_of_length_le (by rw [HM2.out]; omega)] at h; exact h)
          clear hwp hKA hlt hj hMT
          go_wp2_with fail
          refine (keys_tb hS.out.tb).mono ?_
          rintro e w8 ⟨kv, rfl, hks, hB⟩
          obtain ⟨KB, kcb, rfl, hkb⟩ := hks.reads
          have HS8 := Lib.hid (hS.out.next hB)
          have HMP8 := Lib.hid (mapB_block hMP.out (hB.block _ hMP.out.lt))
          have HKB := Lib.hid hkb
          rw [HM2.out]
          clear hS hMP hB hks hkb
          go_wp2_with fail
          go_loopw [91] (fun i wr => ∃ (y : Nat), y ≤ m2 ∧ i = .int .i64 y ∧ Hid (Sit w wr b g bx gr L K n) ∧ Hid (StrA wr KB (keysP L)) ∧ Hid (MapB wr bm j D)) (fun i _ => m2 - (intOf i).toNat)
          case atStart => exact ⟨0, Nat.zero_le _, rfl, HS8, HKB, HMP8⟩
          case round =>
            obtain ⟨y, hy, rfl, hS, hKB, hMP⟩ := hrel
            clear HS8 HKB HMP8
            by_cases hlt : y < m2
            · obtain ⟨s, hs⟩ : ∃ s, (keysP L)[y]? = some s := ⟨_, List.getElem?_eq_getElem (by rw [HM2.out]; exact hlt)⟩
              obtain ⟨q, rfl, a0⟩ := hKB.out y s hs
              have hmem := List.mem_of_getElem? hs
              have HMEM := Lib.hid hmem
              have HSZ := Lib.hid (hS.out.tb.good.fit s hmem)
              have HLEN := Lib.hid hS.out.tb.good.len
              obtain ⟨sl1, sl2⟩ := slot_here hS.out.tb.good hmem
              rw [hS.out.tb.good.len] at sl2
              obtain ⟨p, hp⟩ : ∃ p, (findP L s).1 = p := ⟨_, rfl⟩
              rw [hp] at sl1 sl2
              have HSL := Lib.hid sl1
              have HPP := Lib.hid hp
              have hy0 : (0 : Int) ≤ (y : Int) := by omega
              have hyn : (y : Int) < (m2 : Int) := by omega
              clear hs hmem sl1 hp
              go_wp2_with fail
              obtain ⟨wv, hwv⟩ : ∃ wv, wv = wr := ⟨_, rfl⟩
              rw [← hwv] at hS hKB hMP a0 ⊢
              clear hwv
              have hne : (slotsFor K : Int) ≠ 0 := by omega
              have hne2 : slotsFor K ≠ 0 := by omega
              have hl0 : (0 : Int) ≤ (slotsFor K : Int) := by omega
              have hl1 : (slotsFor K : Int) < 18446744073709551616 := by omega
              have ht0 : (0 : Int) ≤ (txt s : Int) := by omega
              have hw : IntKind.u64.wrap (slotsFor K : Int) = (slotsFor K : Int) := Mx.wrap_small _ (by omega)
              have HMF := Lib.hid (show IntKind.i64.wrap (Int.tmod (txt s : Int) (slotsFor K : Int)) = ((hm L s : Nat) : Int) from by unfold hm; rw [HLEN.out]; exact mod_fit (txt s) (slotsFor K) hq0 hq1)
              have hc0 := hS.out.cell
              go_region_held3 (fun w' => w'.cell? ⟨bx, 0, none⟩ = some (.slice (some ⟨gr, 0, none⟩) (slotsFor K) (slotsFor K))) (first | (with_reducible assumption) | (with_reducible exact drew_keep (by assumption)) | (with_reducible exact cell_keep b24 (by assumption)))
                (first | (go_at_call 24; refine (rtext_below s HSZ.out _).mono ?_; rintro e w9 ⟨rfl, b24⟩))
              rename_i hHeld
              have HS9 := Lib.hid (hS.out.next (below_undrew b24))
              have HK9 := Lib.hid (hKB.out.below (below_undrew b24))
              have HMP9 := Lib.hid (mapB_block hMP.out ((below_undrew b24).block _ hMP.out.lt))
              clear hHeld b24 hc0 hS hKB hMP a0 hw ht0 hl1 hl0
              go_wp2_with fail
              rw [HMF.out]
              have HHM := Lib.hid (show hm L s < slotsFor K from by rw [← HLEN.out]; exact hm_lt (by rw [HLEN.out]; exact hq0) s)
              go_loopw [18] (fun v wr => ∃ (d i : Nat), i < slotsFor K ∧ v = .int .i64 i ∧ Hid (i = (hm L s + d) % slotsFor K ∧ d ≤ dst (slotsFor K) (hm L s) p) ∧ Hid (Sit w wr b g bx gr L K n) ∧ Hid (StrA wr (some ⟨q, 0, none⟩) (keysP L)) ∧ Hid (MapB wr bm j D)) (fun v _ => dst (slotsFor K) (intOf v).toNat p)
              case atStart => exact ⟨0, hm L s, HHM.out, rfl, Lib.hid ⟨by rw [Nat.add_zero, Nat.mod_eq_of_lt HHM.out], Nat.zero_le _⟩, HS9, HK9, HMP9⟩
              case round =>
                obtain ⟨d, i, hi, rfl, hd, hS, hKB, hMP⟩ := hrel
                clear HS9 HK9 HMP9
                have hi0 : (0 : Int) ≤ (i : Int) := by omega
                have hi1 : (i : Int) < (slotsFor K : Int) := by omega
                go_wp2_with fail
                refine (slot_tb hS.out.tb s HSZ.out).mono ?_
                rintro e w10 ⟨rfl, hB⟩
                rw [HSL.out]
                have HS10 := Lib.hid (hS.out.next hB)
                have HK10 := Lib.hid (hKB.out.below hB)
                have hMP10 := mapB_block hMP.out (hB.block _ hMP.out.lt)
                clear hS hKB hMP hB
                by_cases hip : i = p
                · subst hip
                  have HMP10 := Lib.hid hMP10
                  clear hMP10
                  go_wp2_with fail
                  go_roundw
                  case rel => exact ⟨y + 1, by omega, by go_num, HS10, HK10, HMP10⟩
                  case measure => simp [intOf]; omega
                · have hne5 : ((i : Int) == (p : Int)) = false := beq_eq_false_iff_ne.2 (by omega)
                  have hd2 : d < dst (slotsFor K) (hm L s) p := Nat.lt_of_le_of_ne hd.out.2 (fun e => hip (by rw [hd.out.1, e]; exact dst_at HHM.out sl2))
                  have hmt : met L (keysP L) i = true := by
                    have h := path_to HS10.out.tb.good HMEM.out (d := d) (by rw [HLEN.out, HPP.out]; exact hd2)
                    rw [HLEN.out, ← hd.out.1] at h
                    exact h
                  have hrun := mapB_look hMP10 i (by omega) true ((HMT.out.2 i).trans (by rw [hmt]))
                  have hc0 := HS10.out.cell
                  have HMP10 := Lib.hid hMP10
                  have hwn := wrap_next hi hq1
                  have HNX := Lib.hid (dst_next hi sl2 hip)
                  have HD2 := Lib.hid hd2
                  clear hMP10 hmt hd2 hip
                  go_wp2_with fail
                  go_roundw
                  case rel =>
                    refine ⟨d + 1, (i + 1) % slotsFor K, Nat.mod_lt _ (by omega), by go_num, Lib.hid ⟨?_, HD2.out⟩, HS10, HK10, HMP10⟩
                    rw [hd.out.1]
                    exact (next_mod _ _ _).symm
                  case measure => exact meas_drop rfl (by go_num) HNX.out
            · have hyn : ¬ (y : Int) < (m2 : Int) := by omega
              clear hKB hMP
              go_wp2_with fail
              go_ret
              exact ⟨rfl, hS.out.below⟩
theorem home_walk (n : Int) (a : Option Addr) (len cap : Nat) (L : List OpV) (w : World) (hn : (Lit.int .u16 n).wf = true) (hrow : RowOf cells32 3 ok32 w a len cap L) (hr : len * 32 ≤ 140737488351232) :
    Calls Try.prog 5 #[.int .u16 n, .slice a len cap] w fun e w' => TruePost w e w' := by
  have hs := hrow.size
  subst hs
  have hb := bounds_u16 hn
  obtain ⟨k, rfl⟩ := Int.eq_ofNat_of_zero_le hb.1
  exact slotsHome_walk k (by omega) a cap L w (opsA_of_row hrow) (by omega)
end Go.Proofs.Ytakhofmnldlppaa
