/- The walk of SlotsEmpty. Conditions: the rows lie as Go's slices do. -/
import Derived.Test.YtakhofmnldlppaaT
namespace Go.Proofs.Ytakhofmnldlppaa
open Go.RowKit

theorem near_keep {w w' : World} {b g k j : Nat} {v : Value} (hn : Near w w' b g) (h1 : k ≠ b) (h2 : k ≠ g) (h : w.cell? ⟨k, j, none⟩ = some v) : w'.cell? ⟨k, j, none⟩ = some v := by
  have hl : k < w.heap.size := World.block_lt_of_cell? w _ h
  have e := hn.block k hl h1 h2
  unfold World.cell? at h ⊢
  simp only at h ⊢
  rw [e]
  exact h
/-- Two tables that lie apart from each other, both behind what was there. -/
structure Two (w0 w : World) (b g b' g' : Nat) : Prop where
  below : Below w0.heap.size w0 w
  b0 : w0.heap.size ≤ b
  g0 : w0.heap.size ≤ g
  b1 : w0.heap.size ≤ b'
  g1 : w0.heap.size ≤ g'
  n1 : b ≠ b'
  n2 : b ≠ g'
  n3 : g ≠ b'
  n4 : g ≠ g'
theorem Two.next {w0 w w' : World} {b g b' g' : Nat} (h : Two w0 w b g b' g') (k : Below w.heap.size w w') : Two w0 w' b g b' g' := ⟨h.below.trans (k.mono h.below.size), h.b0, h.g0, h.b1, h.g1, h.n1, h.n2, h.n3, h.n4⟩
theorem Two.left {w0 w w' : World} {b g b' g' : Nat} (h : Two w0 w b g b' g') (k : Near w w' b g) : Two w0 w' b g b' g' := ⟨h.below.trans (k.below h.below.size h.b0 h.g0), h.b0, h.g0, h.b1, h.g1, h.n1, h.n2, h.n3, h.n4⟩
theorem Two.right {w0 w w' : World} {b g b' g' : Nat} (h : Two w0 w b g b' g') (k : Near w w' b' g') : Two w0 w' b g b' g' := ⟨h.below.trans (k.below h.below.size h.b1 h.g1), h.b0, h.g0, h.b1, h.g1, h.n1, h.n2, h.n3, h.n4⟩
theorem Two.keepR {w0 w w' : World} {b g b' g' : Nat} {L : List S} {most n : Nat} (h : Two w0 w b g b' g') (k : Near w w' b g) (t : Tb w b' g' L most n) : Tb w' b' g' L most n := t.near k h.n1.symm h.n3.symm h.n2.symm h.n4.symm
theorem Two.keepL {w0 w w' : World} {b g b' g' : Nat} {L : List S} {most n : Nat} (h : Two w0 w b g b' g') (k : Near w w' b' g') (t : Tb w b g L most n) : Tb w' b g L most n := t.near k h.n1 h.n2 h.n3 h.n4
/-- A row of keys behind block B. -/
def StrB (w : World) (B : Nat) (A : Option Addr) (l : List ByteArray) : Prop := ∀ (j : Nat) (s : ByteArray), l[j]? = some s → ∃ g, A = some ⟨g, 0, none⟩ ∧ B ≤ g ∧ w.cell? ⟨g, j, none⟩ = some (.string s)
theorem StrB.str {w : World} {B : Nat} {A : Option Addr} {l : List ByteArray} (h : StrB w B A l) : StrA w A l := fun j s hs => by
  obtain ⟨g, e, _, h0⟩ := h j s hs
  exact ⟨g, e, h0⟩
theorem StrB.below {w w' : World} {B : Nat} {A : Option Addr} {l : List ByteArray} (h : StrB w B A l) (hb : Below w.heap.size w w') : StrB w' B A l := fun j s hs => by
  obtain ⟨g, e, h1, h0⟩ := h j s hs
  exact ⟨g, e, h1, (hb.cell (World.block_lt_of_cell? w _ h0)).trans h0⟩
theorem StrB.near {w w' : World} {B b g : Nat} {A : Option Addr} {l : List ByteArray} (h : StrB w B A l) (hn : Near w w' b g) (hb : b < B) (hg : g < B) : StrB w' B A l := fun j s hs => by
  obtain ⟨q, e, h1, h0⟩ := h j s hs
  exact ⟨q, e, h1, near_keep hn (by omega) (by omega) h0⟩
theorem KeysO.reads2 {w : World} {B : Nat} {v : Value} {l : List ByteArray} (h : KeysO w B v l) : ∃ A cap, v = .slice A l.length cap ∧ StrB w B A l := by
  obtain ⟨A, cap, rfl, hc, hg⟩ := own_get h (by simp [strs])
  refine ⟨A, cap, rfl, fun j s hs => ?_⟩
  obtain ⟨g, e, h1, h0⟩ := hg j (.string s) (by simp [strs, hs])
  exact ⟨g, e, h1, h0⟩
theorem drop_perm {L : List S} {most n : Nat} (G : Good L most n) {s : ByteArray} (hs : s ∈ keysP L) : (dropP L n s).1 = true ∧ (keysP L).Perm (s :: keysP (dropP L n s).2.1) := by
  obtain ⟨q, hq, hu, rfl⟩ := mem_keysP.1 hs
  rw [dropP_there G hq hu]
  exact ⟨rfl, (keys_gone hq hu).trans ((keysP_perm (good_drop G hq hu).2).symm.cons _)⟩
theorem drop_next {L : List S} {most n : Nat} (G : Good L most n) {ks : List ByteArray} {j : Nat} {s : ByteArray} (hp : (keysP L).Perm (ks.drop j)) (hs : ks[j]? = some s) : (dropP L n s).1 = true ∧ (keysP (dropP L n s).2.1).Perm (ks.drop (j + 1)) := by
  have hj := (List.getElem?_eq_some_iff.1 hs).1
  rw [List.drop_eq_getElem_cons hj] at hp
  rw [List.getElem?_eq_getElem hj] at hs
  injection hs with hs
  rw [hs] at hp
  obtain ⟨h1, h2⟩ := drop_perm G (hp.mem_iff.2 List.mem_cons_self)
  exact ⟨h1, List.Perm.cons_inv (h2.symm.trans hp)⟩
theorem drop_end {L : List S} {most n : Nat} (G : Good L most n) {ks : List ByteArray} (hp : (keysP L).Perm (ks.drop ks.length)) : n = 0 ∧ L = blank (slotsFor most) := by
  rw [List.drop_length] at hp
  have h0 := G.cnt
  rw [hp.length_eq] at h0
  have h1 : n = 0 := h0.symm
  subst h1
  exact ⟨rfl, good_none G⟩
set_option maxRecDepth 100000 in
set_option maxHeartbeats 4000000 in
theorem slotsEmpty_walk (n : Nat) (hn : n ≤ 65535) (A : Option Addr) (c : Nat) (l : List OpV) (A2 : Option Addr) (c2 : Nat) (l2 : List OpV) (w : World) (h : OpsA w A c l) (h1 : l.length ≤ 9223372036854775807) (h2 : OpsA w A2 c2 l2) (h3 : l2.length ≤ 9223372036854775807) :
    Calls Try.prog 7 #[.int .u16 n, .slice A l.length c, .slice A2 l2.length c2] w fun e w' => TruePost w e w' := by
  have HA := Lib.hid h
  have HA2 := Lib.hid h2
  have H1 := Lib.hid h1
  have H3 := Lib.hid h3
  clear h h1 h2 h3
  go_enter Try.func7, Try.ntmps7
  go_wp2_with fail
  obtain ⟨K, hK⟩ : ∃ K : Nat, 1 + (n : Int) % 100 = (K : Int) := ⟨1 + n % 100, by omega⟩
  have hK0 : 1 ≤ K := by omega
  have hK1 : K ≤ 1024 := by omega
  rw [hK]
  refine (new_tb K hK0 hK1 w).mono ?_
  rintro e w1 ⟨b, g, rfl, ht, l1, l2', hB⟩
  have HT := Lib.hid ht
  have HB := Lib.hid hB
  have HL := Lib.hid (And.intro l1 l2')
  clear ht hB l1 l2' hK
  go_wp2_with fail
  refine (new_tb K hK0 hK1 w1).mono ?_
  rintro e w2 ⟨b', g', rfl, hu, l1, l2', hB⟩
  have hbw := HT.out.at'.ltb
  have hgw := HT.out.at'.ltg
  have h2 : Two w w2 b g b' g' := ⟨HB.out.trans (hB.mono HB.out.size), HL.out.1, HL.out.2, Nat.le_trans HB.out.size l1, Nat.le_trans HB.out.size l2', by omega, by omega, by omega, by omega⟩
  have HT2 := Lib.hid (HT.out.below hB)
  have HU2 := Lib.hid hu
  have HW2 := Lib.hid h2
  clear hu hB l1 l2' hbw hgw h2 HT HB HL
  go_wp2_with fail
  refine (fixed_any w2).mono ?_
  rintro e w3 ⟨rfl, hB⟩
  have HT3 := Lib.hid (HT2.out.below hB)
  have HU3 := Lib.hid (HU2.out.below hB)
  have HW3 := Lib.hid (HW2.out.next hB)
  clear hB HT2 HU2 HW2
  go_wp2_with fail
  refine (cut_any (HA.out.below HW3.out.below) H1.out).mono ?_
  rintro e w4 ⟨kc, hol, rfl, hB⟩
  obtain ⟨ops, hopse⟩ : ∃ ops, l.take kc = ops := ⟨_, rfl⟩
  have hops := HA.out.take kc
  rw [hopse] at hops hol ⊢
  have HO := Lib.hid hops
  have HT4 := Lib.hid (HT3.out.below hB)
  have HU4 := Lib.hid (HU3.out.below hB)
  have HW4 := Lib.hid (HW3.out.next hB)
  obtain ⟨m, hm⟩ : ∃ m, ops.length = m := ⟨_, rfl⟩
  rw [hm] at hol ⊢
  have HM := Lib.hid hm
  clear hB HT3 HU3 HW3 hops hm hopse
  go_wp2_with fail
  go_loopw [45] (fun i wr => ∃ (k : Nat) (L : List S) (n : Nat), k ≤ m ∧ i = .int .i64 k ∧ Hid (Tb wr b g L K n) ∧ Hid (Tb wr b' g' (blank (slotsFor K)) K 0) ∧ Hid (Two w wr b g b' g') ) (fun i _ => m - (intOf i).toNat)
  case atStart => exact ⟨0, _, _, Nat.zero_le _, rfl, HT4, HU4, HW4⟩
  case round =>
    obtain ⟨k, L, n, hk, rfl, hT, hU, hW⟩ := hrel
    clear HT4 HU4 HW4
    have hO := Lib.hid (HO.out.below hW.out.below)
    by_cases hlt : k < m
    · obtain ⟨o, ho⟩ : ∃ o, ops[k]? = some o := ⟨_, List.getElem?_eq_getElem (by rw [HM.out]; exact hlt)⟩
      have HOK := Lib.hid (hO.out.ok o (List.mem_of_getElem? ho))
      obtain ⟨q, f, rfl, a0, a1, a2⟩ := hO.out.row k o ho
      have hk0 : (0 : Int) ≤ (k : Int) := by omega
      have hkn : (k : Int) < (m : Int) := by omega
      have q1 : (wr.alloc (.cells #[.int .i64 o.kind, .int .i64 o.v, .string o.key] 32)).cell? ⟨wr.heap.size, 1, none⟩ = some (.int .i64 o.v) := cell_new rfl _ _ 1
      have q2 : (wr.alloc (.cells #[.int .i64 o.kind, .int .i64 o.v, .string o.key] 32)).cell? ⟨wr.heap.size, 2, none⟩ = some (.string o.key) := cell_new rfl _ _ 2
      have hba : Below wr.heap.size wr (wr.alloc (.cells #[.int .i64 o.kind, .int .i64 o.v, .string o.key] 32)) := (Below.refl _ _).alloc (Nat.le_refl _) _
      have HT5 := Lib.hid (hT.out.below hba)
      have HU5 := Lib.hid (hU.out.below hba)
      have HW5 := Lib.hid (hW.out.next hba)
      clear hT hU hW hO hba ho
      go_wp2_with fail
      refine (set_tb HT5.out o.key HOK.out.1 o.v).mono ?_
      rintro e w6 ⟨rfl, ht, hN⟩
      have HT6 := Lib.hid ht
      have HU6 := Lib.hid (HW5.out.keepR hN HU5.out)
      have HW6 := Lib.hid (HW5.out.left hN)
      clear ht hN HT5 HU5 HW5 q1 q2 a0 a1 a2
      go_wp2_with fail
      go_roundw
      case rel => exact ⟨k + 1, _, _, by omega, by go_num, HT6, HU6, HW6⟩
      case measure => simp [intOf]; omega
    · have hkn : ¬ (k : Int) < (m : Int) := by omega
      clear hO HO HM hlt
      obtain ⟨wo, hwo⟩ : ∃ wo, wo = wr := ⟨_, rfl⟩
      rw [← hwo] at hT hU hW ⊢
      clear hwo
      go_wp2_with fail
      refine (keys_tb hT.out).mono ?_
      rintro e w7 ⟨kv, rfl, hks, hB⟩
      obtain ⟨KA, kc', rfl, hka⟩ := hks.reads2
      have HT7 := Lib.hid (hT.out.below hB)
      have HU7 := Lib.hid (hU.out.below hB)
      have HW7 := Lib.hid (hW.out.next hB)
      obtain ⟨ks, hkse⟩ : ∃ ks, keysP L = ks := ⟨_, rfl⟩
      rw [hkse] at hka ⊢
      have hkl : ks.length ≤ 2048 := by rw [← hkse]; exact Nat.le_trans (keysP_le _) hT.out.good.two.2
      obtain ⟨m2, hm2⟩ : ∃ m2, ks.length = m2 := ⟨_, rfl⟩
      rw [hm2] at hkl ⊢
      have HM2 := Lib.hid hm2
      have HKA := Lib.hid hka
      have HP := Lib.hid (show (keysP L).Perm (ks.drop 0) by rw [List.drop_zero, hkse])
      have HBG := Lib.hid (And.intro hT.out.at'.ltb hT.out.at'.ltg)
      clear hT hU hW hB hks hka hkse hm2
      go_wp2_with fail
      go_loopw [59] (fun i wr => ∃ (j : Nat) (L : List S) (n : Nat), j ≤ m2 ∧ i = .int .i64 j ∧ Hid (Tb wr b g L K n) ∧ Hid (Tb wr b' g' (blank (slotsFor K)) K 0) ∧ Hid (Two w wr b g b' g') ∧ Hid ((keysP L).Perm (ks.drop j)) ∧ Hid (StrB wr wo.heap.size KA ks)) (fun i _ => m2 - (intOf i).toNat)
      case atStart => exact ⟨0, _, _, Nat.zero_le _, rfl, HT7, HU7, HW7, HP, HKA⟩
      case round =>
        obtain ⟨j, L, n, hj, rfl, hT, hU, hW, hP, hS⟩ := hrel
        clear HT7 HU7 HW7 HP HKA
        by_cases hlt : j < m2
        · obtain ⟨s, hs⟩ : ∃ s, ks[j]? = some s := ⟨_, List.getElem?_eq_getElem (by rw [HM2.out]; exact hlt)⟩
          obtain ⟨q, rfl, _, a0⟩ := hS.out j s hs
          obtain ⟨d1, d2⟩ := drop_next hT.out.good hP.out hs
          have hj0 : (0 : Int) ≤ (j : Int) := by omega
          have hjn : (j : Int) < (m2 : Int) := by omega
          have HD := Lib.hid d1
          have HP2 := Lib.hid d2
          have hsz : s.size ≤ 9223372036854775807 := hT.out.good.fit s (hP.out.mem_iff.2 (List.mem_of_getElem? (by rw [List.getElem?_drop, Nat.add_zero]; exact hs)))
          clear hs hP d1 d2
          go_wp2_with fail
          refine (drop_tb hT.out s hsz).mono ?_
          rintro e w8 ⟨rfl, ht, hN⟩
          rw [HD.out]
          have HT8 := Lib.hid ht
          have HU8 := Lib.hid (hW.out.keepR hN hU.out)
          have HW8 := Lib.hid (hW.out.left hN)
          have HS8 := Lib.hid (hS.out.near hN HBG.out.1 HBG.out.2)
          clear ht hN hT hU hW hS a0
          go_wp2_with fail
          go_roundw
          case rel => exact ⟨j + 1, _, _, by omega, by go_num, HT8, HU8, HW8, HP2, HS8⟩
          case measure => simp [intOf]; omega
        · obtain rfl : j = m2 := by omega
          have hjn : ¬ (j : Int) < (j : Int) := by omega
          rw [← HM2.out] at hP
          obtain ⟨rfl, rfl⟩ := drop_end hT.out.good hP.out
          clear hP hS hlt hj
          obtain ⟨wp, hwp⟩ : ∃ wp, wp = wr := ⟨_, rfl⟩
          rw [← hwp] at hT hU hW ⊢
          clear hwp
          go_wp2_with fail
          refine (len_tb hT.out).mono ?_
          rintro e w9 ⟨rfl, rfl⟩
          go_wp2_with fail
          refine (keys_tb hT.out).mono ?_
          rintro e w10 ⟨kv, rfl, hks, hB⟩
          rw [keysP_blank] at hks
          obtain ⟨KA2, kc2, rfl, _⟩ := hks.reads2
          have HT10 := Lib.hid (hT.out.below hB)
          have HU10 := Lib.hid (hU.out.below hB)
          have HW10 := Lib.hid (hW.out.next hB)
          clear hT hU hW hB hks
          go_wp2_with fail
          refine (cut_any (HA2.out.below HW10.out.below) H3.out).mono ?_
          rintro e w11 ⟨kc3, hol3, rfl, hB⟩
          obtain ⟨ops3, hopse3⟩ : ∃ ops, l2.take kc3 = ops := ⟨_, rfl⟩
          have hops3 := HA2.out.take kc3
          rw [hopse3] at hops3 hol3 ⊢
          have HO3 := Lib.hid hops3
          have HT11 := Lib.hid (HT10.out.below hB)
          have HU11 := Lib.hid (HU10.out.below hB)
          have HW11 := Lib.hid (HW10.out.next hB)
          obtain ⟨m3, hm3⟩ : ∃ m, ops3.length = m := ⟨_, rfl⟩
          rw [hm3] at hol3 ⊢
          have HM3 := Lib.hid hm3
          clear hB HT10 HU10 HW10 hops3 hm3 hopse3
          go_wp2_with fail
          go_loopw [80] (fun i wr => ∃ (j : Nat) (L : List S) (n : Nat), j ≤ m3 ∧ i = .int .i64 j ∧ Hid (Tb wr b g L K n) ∧ Hid (Tb wr b' g' L K n) ∧ Hid (Two w wr b g b' g')) (fun i _ => m3 - (intOf i).toNat)
          case atStart => exact ⟨0, _, _, Nat.zero_le _, rfl, HT11, HU11, HW11⟩
          case round =>
            obtain ⟨k, L, n, hk, rfl, hT, hU, hW⟩ := hrel
            clear HT11 HU11 HW11
            by_cases hlt : k < m3
            · obtain ⟨o, ho⟩ : ∃ o, ops3[k]? = some o := ⟨_, List.getElem?_eq_getElem (by rw [HM3.out]; exact hlt)⟩
              have HOK := Lib.hid (HO3.out.ok o (List.mem_of_getElem? ho))
              obtain ⟨q, f, rfl, a0, a1, a2⟩ := (HO3.out.below hW.out.below).row k o ho
              have hk0 : (0 : Int) ≤ (k : Int) := by omega
              have hkn : (k : Int) < (m3 : Int) := by omega
              have q1 : (wr.alloc (.cells #[.int .i64 o.kind, .int .i64 o.v, .string o.key] 32)).cell? ⟨wr.heap.size, 1, none⟩ = some (.int .i64 o.v) := cell_new rfl _ _ 1
              have q2 : (wr.alloc (.cells #[.int .i64 o.kind, .int .i64 o.v, .string o.key] 32)).cell? ⟨wr.heap.size, 2, none⟩ = some (.string o.key) := cell_new rfl _ _ 2
              have hba : Below wr.heap.size wr (wr.alloc (.cells #[.int .i64 o.kind, .int .i64 o.v, .string o.key] 32)) := (Below.refl _ _).alloc (Nat.le_refl _) _
              have HT5 := Lib.hid (hT.out.below hba)
              have HU5 := Lib.hid (hU.out.below hba)
              have HW5 := Lib.hid (hW.out.next hba)
              have nb : wr.heap.size ≠ b := Nat.ne_of_gt hT.out.at'.ltb
              have ng : wr.heap.size ≠ g := Nat.ne_of_gt hT.out.at'.ltg
              have nb' : wr.heap.size ≠ b' := Nat.ne_of_gt hU.out.at'.ltb
              have ng' : wr.heap.size ≠ g' := Nat.ne_of_gt hU.out.at'.ltg
              clear hT hU hW hba ho
              go_wp2_with fail
              obtain ⟨W, hW⟩ : ∃ W, W = wr.alloc (.cells #[.int .i64 o.kind, .int .i64 o.v, .string o.key] 32) := ⟨_, rfl⟩
              rw [← hW] at q1 q2 HT5 HU5 HW5 ⊢
              clear hW
              have HTd : Hid (Tb W.drew b g L K n) := Lib.hid ⟨HT5.out.at'.heap rfl rfl, HT5.out.good⟩
              have HUd : Hid (Tb W.drew b' g' L K n) := Lib.hid ⟨HU5.out.at'.heap rfl rfl, HU5.out.good⟩
              have HWd : Hid (Two w W.drew b g b' g') := Lib.hid ⟨HW5.out.below.drew, HW5.out.b0, HW5.out.g0, HW5.out.b1, HW5.out.g1, HW5.out.n1, HW5.out.n2, HW5.out.n3, HW5.out.n4⟩
              clear HT5 HU5 HW5 a0 a1 a2
              go_region_held3 (fun w' => w'.cell? ⟨wr.heap.size, 1, none⟩ = some (.int .i64 o.v) ∧ w'.cell? ⟨wr.heap.size, 2, none⟩ = some (.string o.key))
                ((go_split_ands; (try dsimp only); (refine ⟨?_, ?_⟩ <;> first | (with_reducible assumption) | (with_reducible exact drew_keep (by assumption)) | (with_reducible exact cell_keep hB9 (by assumption)) | (with_reducible exact cell_keep hB8 (by assumption)) | (with_reducible exact near_keep hN7 nb' ng' (by assumption)) | (with_reducible exact near_keep hN6 nb ng (by assumption)))))
                (first
                  | (go_at_call 20; refine (slot_tb HU8.out o.key HOK.out.1).mono ?_; rintro e v9 ⟨rfl, hB9⟩; have HU9 := Lib.hid (HU8.out.below hB9); have HT9 := Lib.hid (HT8.out.below hB9); have HW9 := Lib.hid (HW8.out.next hB9))
                  | (go_at_call 20; refine (slot_tb HT7.out o.key HOK.out.1).mono ?_; rintro e v8 ⟨rfl, hB8⟩; have HU8 := Lib.hid (HU7.out.below hB8); have HT8 := Lib.hid (HT7.out.below hB8); have HW8 := Lib.hid (HW7.out.next hB8))
                  | (go_at_call 11; refine (set_tb HU6.out o.key HOK.out.1 o.v).mono ?_; rintro e v7 ⟨rfl, ht, hN7⟩; have HU7 := Lib.hid ht; have HT7 := Lib.hid (HW6.out.keepL hN7 HT6.out); have HW7 := Lib.hid (HW6.out.right hN7); clear ht)
                  | (go_at_call 11; refine (set_tb HTd.out o.key HOK.out.1 o.v).mono ?_; rintro e v6 ⟨rfl, ht, hN6⟩; have HT6 := Lib.hid ht; have HU6 := Lib.hid (HWd.out.keepR hN6 HUd.out); have HW6 := Lib.hid (HWd.out.left hN6); clear ht))
              rename_i hHeld
              clear hHeld hB8 hB9 hN6 hN7 HTd HUd HWd HT6 HU6 HW6 HT7 HU7 HW7 HT8 HU8 HW8 q1 q2
              go_wp2_with fail
              go_roundw
              case rel => exact ⟨k + 1, _, _, by omega, by go_num, HT9, HU9, HW9⟩
              case measure => simp [intOf]; omega
            · have hkn : ¬ (k : Int) < (m3 : Int) := by omega
              clear hlt hk
              go_wp2_with fail
              refine (keys_tb hT.out).mono ?_
              rintro e w12 ⟨kv, rfl, hks, hB⟩
              obtain ⟨KB, kcb, rfl, hkb⟩ := hks.reads
              have HU12 := Lib.hid (hU.out.below hB)
              have HW12 := Lib.hid (hW.out.next hB)
              have HKB := Lib.hid hkb
              have hkl : (keysP L).length ≤ 4096 := by
                have h1 := keysP_le L
                have h2 := hT.out.good.two.2
                omega
              clear hT hU hW hB hks hkb
              go_wp2_with fail
              refine (keys_tb HU12.out).mono ?_
              rintro e w13 ⟨kv, rfl, hks, hB⟩
              obtain ⟨KC, kcc, rfl, hkc⟩ := hks.reads
              have HW13 := Lib.hid (HW12.out.next hB)
              have HS := Lib.hid (same_any (c := kcb) (c2 := kcc) (HKB.out.below hB) hkc hkl)
              clear hB hks hkc HU12 HW12 HKB
              go_wp2_with fail
              refine (HS.out).mono ?_
              rintro e w14 ⟨rfl, hB⟩
              have HW14 := Lib.hid (HW13.out.next hB)
              clear hB HS HW13
              go_wp2_with fail
              go_ret
              exact ⟨rfl, HW14.out.below⟩
theorem empty_walk (n : Int) (a : Option Addr) (len cap : Nat) (L : List OpV) (a2 : Option Addr) (len2 cap2 : Nat) (L2 : List OpV) (w : World) (hn : (Lit.int .u16 n).wf = true) (hrow : RowOf cells32 3 ok32 w a len cap L) (hr : len * 32 ≤ 140737488351232) (hrow2 : RowOf cells32 3 ok32 w a2 len2 cap2 L2) (hr2 : len2 * 32 ≤ 140737488351232) :
    Calls Try.prog 7 #[.int .u16 n, .slice a len cap, .slice a2 len2 cap2] w fun e w' => TruePost w e w' := by
  have hs := hrow.size
  have hs2 := hrow2.size
  subst hs hs2
  have hb := bounds_u16 hn
  obtain ⟨k, rfl⟩ := Int.eq_ofNat_of_zero_le hb.1
  exact slotsEmpty_walk k (by omega) a cap L a2 cap2 L2 w (opsA_of_row hrow) (by omega) (opsA_of_row hrow2) (by omega)
end Go.Proofs.Ytakhofmnldlppaa
