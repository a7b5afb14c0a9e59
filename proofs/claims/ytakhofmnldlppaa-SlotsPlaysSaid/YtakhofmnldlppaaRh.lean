/- The walk of SlotsPlays. Conditions: the row lies as Go's slices do. -/
import Derived.Test.YtakhofmnldlppaaRg
namespace Go.Proofs.Ytakhofmnldlppaa
open Go.RowKit

def nth : List Oper → Nat → Option Oper
  | [], _ => none
  | o :: _, 0 => some o
  | _ :: r, n + 1 => nth r n
theorem nth_eq : ∀ (l : List Oper) (i : Nat), nth l i = l[i]? := by
  intro l
  induction l with
  | nil => intro i; rfl
  | cons o r ih => intro i; cases i with
    | zero => rfl
    | succ i => rw [nth, ih]; simp
section
variable {P : Program} {ops : Array Oper} {Q : Exit → Act → World → Prop} {md : Region.Mode} {S : World → Prop}
theorem lay_take {i : Nat} {oi : Oper} {v : Value} {fuel : Nat} {listed : Array Bool} {a : Act} {w : World} (hi : nth ops.toList i = some oi)
    (hs : Region.noSelect ops = true) (hf : Region.free md ops listed i = true) (hr : (Region.ready md ops listed).contains i = true)
    (hQ : ∀ c a w, Q (.panic c) (a.put oi.dst v) w → Q (.panic c) a w) (hy : YieldsIf P ops S oi v a) (hS : S w)
    (h : wpAnyH P md ops Q S fuel (listed.setIfInBounds i true) (a.put oi.dst v) w) : wpAnyH P md ops Q S (fuel + 1) listed a w :=
  wpAnyH_take (by rw [nth_eq] at hi; simpa using hi) hs hf hr hQ hy hS h
theorem lay_cons {fuel : Nat} {listed : Array Bool} {a : Act} {w : World} {i : Nat} {o : Oper} {rs : List Nat} (ho : nth ops.toList i = some o)
    (h : ∀ K' : Act → World → Prop, Shut (∀ a w, S w → (S w → wpAnyH P md ops Q S fuel (listed.setIfInBounds i true) a w) → K' a w) → if Region.wanted o (yielded ops a.tmps) = true then Oper.wp P o a w K' Q else K' (a.put o.dst undef) w)
    (hs : AllReadyH P md ops Q S fuel listed a w rs) : AllReadyH P md ops Q S fuel listed a w (i :: rs) :=
  AllReadyH.cons (by rw [nth_eq] at ho; simpa using ho) h hs
end
/-- A table with the slots L, and a box with the reference's table, its slots R at gr. -/
structure PS (w0 w : World) (b g x gr : Nat) (L R : List S) (K n : Nat) : Prop where
  below : Below w0.heap.size w0 w
  b0 : w0.heap.size ≤ b
  g0 : w0.heap.size ≤ g
  x0 : w0.heap.size ≤ x
  n1 : x ≠ b
  n2 : x ≠ g
  n3 : gr ≠ b
  n4 : gr ≠ g
  n5 : gr ≠ x
  tb : Tb w b g L K n
  box : w.heap[x]? = some (.cells #[.slice (some ⟨gr, 0, none⟩) (slotsFor K) (slotsFor K), .int .i64 K] 43 (0, 0))
  ref : RefAt w gr R
theorem PS.next {w0 w w' : World} {b g x gr : Nat} {L R : List S} {K n : Nat} (h : PS w0 w b g x gr L R K n) (k : Below w.heap.size w w') : PS w0 w' b g x gr L R K n :=
  ⟨h.below.trans (k.mono h.below.size), h.b0, h.g0, h.x0, h.n1, h.n2, h.n3, h.n4, h.n5, h.tb.below k, (k.block _ (lt_of_block h.box)).trans h.box, h.ref.below k⟩
/-- The table is written. -/
theorem PS.turn {w0 w w' : World} {b g x gr : Nat} {L L' R : List S} {K n n' : Nat} (h : PS w0 w b g x gr L R K n) (k : Near w w' b g) (t : Tb w' b g L' K n') : PS w0 w' b g x gr L' R K n' :=
  ⟨h.below.trans (k.below h.below.size h.b0 h.g0), h.b0, h.g0, h.x0, h.n1, h.n2, h.n3, h.n4, h.n5, t, (k.block _ (lt_of_block h.box) h.n1 h.n2).trans h.box, (k.block _ h.ref.lt h.n3 h.n4).trans h.ref⟩
/-- The reference's table is stored anew. -/
theorem PS.swap {w0 w w' : World} {b g x gr gr' : Nat} {L R R' : List S} {K n : Nat} (h : PS w0 w b g x gr L R K n) (k : Below w.heap.size w w') (r : RefAt w' gr' R') (hg : gr' = gr ∨ w.heap.size ≤ gr') :
    PS w0 ((w'.setCell ⟨x, 0, none⟩ (.slice (some ⟨gr', 0, none⟩) (slotsFor K) (slotsFor K))).setCell ⟨x, 1, none⟩ (.int .i64 K)) b g x gr' L R' K n := by
  have h' := h.next k
  have l1 := h.tb.at'.ltb
  have l2 := h.tb.at'.ltg
  have l3 := lt_of_block h.box
  have e1 : gr' ≠ b := by rcases hg with rfl | hg; exact h.n3; omega
  have e2 : gr' ≠ g := by rcases hg with rfl | hg; exact h.n4; omega
  have e3 : gr' ≠ x := by rcases hg with rfl | hg; exact h.n5; omega
  refine ⟨(h'.below.setCell h.x0 _).setCell h.x0 _, h.b0, h.g0, h.x0, h.n1, h.n2, e1, e2, e3, ⟨h'.tb.at'.heap ?_ ?_, h.tb.good⟩, box_set h'.box, ?_⟩
  · rw [heap_setCell_other _ _ _ _ h.n1.symm, heap_setCell_other _ _ _ _ h.n1.symm]
  · rw [heap_setCell_other _ _ _ _ h.n2.symm, heap_setCell_other _ _ _ _ h.n2.symm]
  · unfold RefAt
    rw [heap_setCell_other _ _ _ _ e3, heap_setCell_other _ _ _ _ e3]
    exact r
theorem rset_m {w : World} {g m : Nat} {L : List S} {most n : Nat} (hm : L.length = m) (h : RefAt w g L) (G : Good L most n) (s : ByteArray) (hs : s.size ≤ 9223372036854775807) (v : Int) :
    Calls Try.prog 17 #[.agg #[.slice (some ⟨g, 0, none⟩) m m, .int .i64 most], .string s, .int .i64 v] w fun e w' => ∃ g', e = .returned (.tuple #[.int .i64 (setP L most n s v).1, .agg #[.slice (some ⟨g', 0, none⟩) m m, .int .i64 most]]) ∧ RefAt w' g' (setP L most n s v).2.1 ∧ w.heap.size ≤ g' ∧ Below w.heap.size w w' := by
  subst hm
  refine (rset_any h G s hs v).mono ?_
  rintro e w' ⟨g', he, hr, hg, hB⟩
  have hl : (setP L most n s v).2.1.length = L.length := (good_set G s hs v).len.trans G.len.symm
  rw [hl] at he
  exact ⟨g', he, hr, hg, hB⟩
theorem rdrop_m {w : World} {g m : Nat} {L : List S} {most n : Nat} (hm : L.length = m) (h : RefAt w g L) (G : Good L most n) (s : ByteArray) :
    Calls Try.prog 18 #[.agg #[.slice (some ⟨g, 0, none⟩) m m, .int .i64 most], .string s] w fun e w' => ∃ g', e = .returned (.tuple #[.bool (dropP L n s).1, .agg #[.slice (some ⟨g', 0, none⟩) m m, .int .i64 most]]) ∧ RefAt w' g' (dropP L n s).2.1 ∧ (g' = g ∨ w.heap.size ≤ g') ∧ Below w.heap.size w w' := by
  subst hm
  refine (rdrop_any h G s).mono ?_
  rintro e w' ⟨g', he, hr, hg, hB⟩
  have hl : (dropP L n s).2.1.length = L.length := (drop_keeps G s).len.trans G.len.symm
  rw [hl] at he
  exact ⟨g', he, hr, hg, hB⟩
theorem len_below {w : World} {b g : Nat} {L : List S} {most n : Nat} (h : Tb w b g L most n) : Calls Try.prog 15 #[.pointer (some ⟨b, 0, none⟩)] w fun e w' => e = .returned (.int .i64 n) ∧ Below w.heap.size w w' :=
  (len_tb h).mono (by rintro e w' ⟨rfl, rfl⟩; exact ⟨rfl, Below.refl _ _⟩)
theorem rkeys_m {w : World} {g m : Nat} {L : List S} (hm : L.length = m) (h : RefAt w g L) (h1 : m ≤ 2048) (mv : Int) :
    Calls Try.prog 23 #[.agg #[.slice (some ⟨g, 0, none⟩) m m, .int .i64 mv]] w fun e w' => KeysPost w (keysP L) e w' := by
  subst hm
  exact rkeys_any h h1 mv
set_option maxRecDepth 100000 in
set_option maxHeartbeats 1000000 in
theorem plays_bad (n : Int) (hn : n < 1 ∨ 1024 < n) (v : Value) (w : World) : Calls Try.prog 4 #[.int .i64 n, v] w fun e w' => TruePost w e w' := by
  have hnb := new_bad n hn w
  have hrb := rnew_bad n hn w
  clear hn
  go_enter Try.func4, Try.ntmps4
  go_wp2_with fail
  refine (hnb).mono ?_
  rintro e w1 ⟨rfl, rfl⟩
  go_wp2_with fail
  refine (hrb).mono ?_
  rintro e w2 ⟨rfl, hB⟩
  have HB := Lib.hid (hB.alloc hB.size (.cells #[.slice none 0 0, .int .i64 0] 43))
  clear hB
  go_wp2_with fail
  refine (fixed_any _).mono ?_
  rintro e w3 ⟨rfl, hB⟩
  have HB3 := Lib.hid (HB.out.trans (hB.mono HB.out.size))
  clear hB
  go_wp2_with fail
  go_ret
  exact ⟨rfl, HB3.out⟩
set_option maxRecDepth 100000 in
set_option maxHeartbeats 8000000 in
theorem slotsPlays_good (K : Nat) (hK0 : 1 ≤ K) (hK1 : K ≤ 1024) (A : Option Addr) (c : Nat) (l : List OpV) (w : World) (h : OpsA w A c l) (h1 : l.length ≤ 9223372036854775807) :
    Calls Try.prog 4 #[.int .i64 K, .slice A l.length c] w fun e w' => TruePost w e w' := by
  have HA := Lib.hid h
  have H1 := Lib.hid h1
  clear h h1
  go_enter Try.func4, Try.ntmps4
  go_wp2_with fail
  refine (new_tb K hK0 hK1 w).mono ?_
  rintro e w1 ⟨b, g, rfl, ht, l1, l2', hB⟩
  have HT := Lib.hid ht
  have HB := Lib.hid hB
  have HL := Lib.hid (And.intro l1 l2')
  clear ht hB l1 l2'
  go_wp2_with fail
  refine (rnew_any K hK0 hK1 w1).mono ?_
  rintro e w2 ⟨gr, rfl, hr, hg0, hB⟩
  have hbt := HT.out.at'.ltb
  have hgt := HT.out.at'.ltg
  have hrl := hr.lt
  have hbs := hB.size
  have hba : Below w2.heap.size w2 (w2.alloc (.cells #[.slice (some ⟨gr, 0, none⟩) (slotsFor K) (slotsFor K), .int .i64 K] 43)) := (Below.refl _ _).alloc (Nat.le_refl _) _
  have hS : PS w (w2.alloc (.cells #[.slice (some ⟨gr, 0, none⟩) (slotsFor K) (slotsFor K), .int .i64 K] 43)) b g w2.heap.size gr (blank (slotsFor K)) (blank (slotsFor K)) K 0 :=
    ⟨(HB.out.trans (hB.mono HB.out.size)).alloc (Nat.le_trans HB.out.size hB.size) _, HL.out.1, HL.out.2, Nat.le_trans HB.out.size hB.size, by omega, by omega, by omega, by omega, by omega, (HT.out.below hB).below hba, heap_alloc_new w2 _, hr.below hba⟩
  have HS := Lib.hid hS
  have HMM := Lib.hid (show slotsFor K ≤ 2048 ∧ 1 ≤ slotsFor K from by
    have h1 := (good_blank hK0 hK1).two
    rw [len_blank] at h1
    omega)
  clear hS hB hbt hgt hg0 hrl hbs hba hr HT HB HL
  go_wp2_with fail
  refine (fixed_any _).mono ?_
  rintro e w3 ⟨rfl, hB⟩
  have HS3 := Lib.hid (HS.out.next hB)
  obtain ⟨bx, hbx⟩ : ∃ bx, w2.heap.size = bx := ⟨_, rfl⟩
  rw [hbx] at HS3 ⊢
  clear hB HS hbx
  go_wp2_with fail
  refine (cut_any (HA.out.below HS3.out.below) H1.out).mono ?_
  rintro e w4 ⟨kc, hol, rfl, hB⟩
  obtain ⟨ops, hopse⟩ : ∃ ops, l.take kc = ops := ⟨_, rfl⟩
  have hops := HA.out.take kc
  rw [hopse] at hops hol ⊢
  have HO := Lib.hid hops
  have HS4 := Lib.hid (HS3.out.next hB)
  obtain ⟨m, hm⟩ : ∃ m, ops.length = m := ⟨_, rfl⟩
  rw [hm] at hol ⊢
  have HM := Lib.hid hm
  have hq0 : 1 ≤ slotsFor K := HMM.out.2
  have hq1 : slotsFor K ≤ 2048 := HMM.out.1
  clear hB HS3 hops hm hopse HA H1
  go_wp2_with fail
  go_loopw [45] (fun i wr => ∃ (k : Nat) (L : List S) (gr n : Nat), k ≤ m ∧ i = .int .i64 k ∧ Hid (PS w wr b g bx gr L L K n)) (fun i _ => m - (intOf i).toNat)
  case atStart => exact ⟨0, _, _, _, Nat.zero_le _, rfl, HS4⟩
  case round =>
    obtain ⟨k, L, gr, n, hk, rfl, hS⟩ := hrel
    clear HS4
    by_cases hlt : k < m
    · obtain ⟨o, ho⟩ : ∃ o, ops[k]? = some o := ⟨_, List.getElem?_eq_getElem (by rw [HM.out]; exact hlt)⟩
      have HOK := Lib.hid (HO.out.ok o (List.mem_of_getElem? ho))
      obtain ⟨q, f, rfl, a0, a1, a2⟩ := (HO.out.below hS.out.below).row k o ho
      have hk0 : (0 : Int) ≤ (k : Int) := by omega
      have hkn : (k : Int) < (m : Int) := by omega
      obtain ⟨kind, v1, key1⟩ := o
      simp only at a0 a1 a2
      have q0 : (wr.alloc (.cells #[.int .i64 kind, .int .i64 v1, .string key1] 32)).cell? ⟨wr.heap.size, 0, none⟩ = some (.int .i64 kind) := cell_new rfl _ _ 0
      have q1 : (wr.alloc (.cells #[.int .i64 kind, .int .i64 v1, .string key1] 32)).cell? ⟨wr.heap.size, 1, none⟩ = some (.int .i64 v1) := cell_new rfl _ _ 1
      have q2 : (wr.alloc (.cells #[.int .i64 kind, .int .i64 v1, .string key1] 32)).cell? ⟨wr.heap.size, 2, none⟩ = some (.string key1) := cell_new rfl _ _ 2
      have hba : Below wr.heap.size wr (wr.alloc (.cells #[.int .i64 kind, .int .i64 v1, .string key1] 32)) := (Below.refl _ _).alloc (Nat.le_refl _) _
      have HS6 := Lib.hid (hS.out.next hba)
      have nb : wr.heap.size ≠ b := Nat.ne_of_gt hS.out.tb.at'.ltb
      have ng : wr.heap.size ≠ g := Nat.ne_of_gt hS.out.tb.at'.ltg
      have nx : bx ≠ wr.heap.size := Nat.ne_of_lt (lt_of_block hS.out.box)
      clear hS hba ho
      obtain ⟨x0, x1, x2, x3⟩ := zero_two HS6.out.box
      by_cases h0 : kind = 0
      · subst h0
        go_wp2_with fail
        refine (rset_m HS6.out.tb.good.len HS6.out.ref HS6.out.tb.good key1 HOK.out.1 v1).mono ?_
        rintro e w5 ⟨gr5, rfl, hr, hg5, hB⟩
        have HS7 := Lib.hid (HS6.out.swap hB hr (.inr hg5))
        obtain ⟨y0, y1, y2, y3⟩ := zero_two (HS6.out.next hB).box
        have q1' := set2_far (j := 0) (k := 1) (u := .slice (some ⟨gr5, 0, none⟩) (slotsFor K) (slotsFor K)) (v := .int .i64 K) nx (cell_keep hB q1)
        have q2' := set2_far (j := 0) (k := 1) (u := .slice (some ⟨gr5, 0, none⟩) (slotsFor K) (slotsFor K)) (v := .int .i64 K) nx (cell_keep hB q2)
        clear hB hr hg5 a0 a1 a2 q0 q1 q2 x0 x1 x2 x3
        go_upto_region 14 with fail
        obtain ⟨w6, hw6⟩ : ∃ w6, w6 = ((w5.setCell ⟨bx, 0, none⟩ (.slice (some ⟨gr5, 0, none⟩) (slotsFor K) (slotsFor K))).setCell ⟨bx, 1, none⟩ (.int .i64 K)) := ⟨_, rfl⟩
        rw [← hw6] at HS7 q1' q2' ⊢
        have q1 := q1'
        have q2 := q2'
        clear hw6 q1' q2' y0 y1 y2 y3 HS6
        go_wp2_with fail
        refine (set_tb HS7.out.tb key1 HOK.out.1 v1).mono ?_
        rintro e w7 ⟨rfl, ht, hN⟩
        have HS8 := Lib.hid (HS7.out.turn hN ht)
        have q2' := near_keep hN nb ng q2
        clear ht hN q1 q2 HS7
        have q2 := q2'
        clear q2'
        obtain ⟨L1, n1, hL1⟩ : ∃ L1 n1, L1 = (setP L K n key1 v1).2.1 ∧ n1 = (setP L K n key1 v1).2.2 := ⟨_, _, rfl, rfl⟩
        rw [← hL1.1, ← hL1.2] at HS8
        obtain ⟨code, hcode⟩ : ∃ code, (setP L K n key1 v1).1 = code := ⟨_, rfl⟩
        rw [hcode]
        clear hL1 hcode
        by_cases hs : key1 ∈ keysP L1
        · obtain ⟨p, hp, hpu, hpk⟩ := mem_keysP.1 hs
          have hsl := (slot_here HS8.out.tb.good hs).1
          have hhit := HS8.out.tb.good.hit hp hpu
          have hget := getP_yes HS8.out.tb.good (ix_mem hp) hpu
          rw [hpk] at hhit hget
          rw [hhit] at hsl
          have HSL := Lib.hid hsl
          have HGET := Lib.hid hget
          have HIX := Lib.hid (ix_get hp)
          have hpm : p < slotsFor K := by rw [← HS8.out.tb.good.len]; exact hp
          have hp0 : (0 : Int) ≤ (p : Int) := by omega
          have hp1 : (p : Int) < (slotsFor K : Int) := by omega
          clear hs hp hpu hpk hsl hhit hget
          go_wp2_with fail
          refine (get_tb HS8.out.tb key1 HOK.out.1).mono ?_
          rintro e w8 ⟨rfl, hB⟩
          rw [HGET.out]
          have HPS8 := Lib.hid (HS8.out.next hB)
          have q2' := cell_keep hB q2
          clear hB HS8 q2
          obtain ⟨x0, x1, _, _⟩ := zero_two HPS8.out.box
          have hat := rat_any HPS8.out.ref HPS8.out.tb.good (K : Int) key1
          rw [HPS8.out.tb.good.len] at hat
          go_wp2_with fail
          refine (hat).mono ?_
          rintro e w9 ⟨rfl, hB⟩
          rw [HSL.out]
          have HPS9 := Lib.hid (HPS8.out.next hB)
          have q2 := cell_keep hB q2'
          clear hB HPS8 q2' x0 x1 hat
          obtain ⟨x0, x1, _, _⟩ := zero_two HPS9.out.box
          obtain ⟨-, -, r2⟩ := HPS9.out.ref.at HIX.out
          have HPSd := Lib.hid (HPS9.out.next ((Below.refl _ _).drew))
          go_wp2_with fail
          refine wp_region_held_drew (S := fun w' => w'.cell? ⟨bx, 0, none⟩ = some (.slice (some ⟨gr5, 0, none⟩) (slotsFor K) (slotsFor K)) ∧ w'.cell? ⟨bx, 1, none⟩ = some (.int .i64 K) ∧ w'.cell? ⟨wr.heap.size, 2, none⟩ = some (.string key1) ∧ w'.cell? ⟨gr5, p * 3 + 2, none⟩ = some (.int .i64 (ix L1 p).v)) (by kernel_rfl) ?_ (fun hHeld => ?_)
          · exact ⟨drew_keep x0, drew_keep x1, drew_keep q2, drew_keep r2⟩
          refine lay_take (i := 0) (v := ?vb0) rfl (by kernel_rfl) (by kernel_rfl) (by kernel_rfl) (fun _ _ _ h => h) (Or.inl ⟨by rfl, ?yb0⟩) (by assumption) ?_
          case yb0 => (intro w hSw; (try dsimp only at hSw); go_simp; try with_reducible rfl)
          try simp only [Act.put, List.setIfInBounds_toArray, List.set_cons_zero, List.set_cons_succ]
          refine lay_take (i := 1) (v := ?vb1) rfl (by kernel_rfl) (by kernel_rfl) (by kernel_rfl) (fun _ _ _ h => h) (Or.inl ⟨by rfl, ?yb1⟩) (by assumption) ?_
          case yb1 => (intro w hSw; (try dsimp only at hSw); go_simp; try with_reducible rfl)
          try simp only [Act.put, List.setIfInBounds_toArray, List.set_cons_zero, List.set_cons_succ]
          refine lay_take (i := 2) (v := ?vb2) rfl (by kernel_rfl) (by kernel_rfl) (by kernel_rfl) (fun _ _ _ h => h) (Or.inl ⟨by rfl, ?yb2⟩) (by assumption) ?_
          case yb2 => (intro w hSw; (try dsimp only at hSw); go_simp; try with_reducible rfl)
          try simp only [Act.put, List.setIfInBounds_toArray, List.set_cons_zero, List.set_cons_succ]
          refine lay_take (i := 3) (v := ?vb3) rfl (by kernel_rfl) (by kernel_rfl) (by kernel_rfl) (fun _ _ _ h => h) (Or.inl ⟨by rfl, ?yb3⟩) (by assumption) ?_
          case yb3 => (intro w hSw; (try dsimp only at hSw); go_simp; try with_reducible rfl)
          try simp only [Act.put, List.setIfInBounds_toArray, List.set_cons_zero, List.set_cons_succ]
          refine lay_take (i := 4) (v := ?vb4) rfl (by kernel_rfl) (by kernel_rfl) (by kernel_rfl) (fun _ _ _ h => h) (Or.inl ⟨by rfl, ?yb4⟩) (by assumption) ?_
          case yb4 => (intro w hSw; (try dsimp only at hSw); go_simp; try with_reducible rfl)
          try simp only [Act.put, List.setIfInBounds_toArray, List.set_cons_zero, List.set_cons_succ]
          refine lay_take (i := 5) (v := ?vb5) rfl (by kernel_rfl) (by kernel_rfl) (by kernel_rfl) (fun _ _ _ h => h) (Or.inl ⟨by rfl, ?yb5⟩) (by assumption) ?_
          case yb5 => (intro w hSw; (try dsimp only at hSw); go_simp; try with_reducible rfl)
          try simp only [Act.put, List.setIfInBounds_toArray, List.set_cons_zero, List.set_cons_succ]
          refine lay_take (i := 6) (v := ?vb6) rfl (by kernel_rfl) (by kernel_rfl) (by kernel_rfl) (fun _ _ _ h => h) (Or.inl ⟨by rfl, ?yb6⟩) (by assumption) ?_
          case yb6 => (intro w hSw; (try dsimp only at hSw); go_simp; try with_reducible rfl)
          try simp only [Act.put, List.setIfInBounds_toArray, List.set_cons_zero, List.set_cons_succ]
          refine lay_take (i := 7) (v := ?vb7) rfl (by kernel_rfl) (by kernel_rfl) (by kernel_rfl) (fun _ _ _ h => h) (Or.inl ⟨by rfl, ?yb7⟩) (by assumption) ?_
          case yb7 => (intro w hSw; (try dsimp only at hSw); go_simp; try with_reducible rfl)
          try simp only [Act.put, List.setIfInBounds_toArray, List.set_cons_zero, List.set_cons_succ]
          refine lay_take (i := 8) (v := ?vb8) rfl (by kernel_rfl) (by kernel_rfl) (by kernel_rfl) (fun _ _ _ h => h) (Or.inl ⟨by rfl, ?yb8⟩) (by assumption) ?_
          case yb8 => (intro w hSw; (try dsimp only at hSw); go_simp; try with_reducible rfl)
          try simp only [Act.put, List.setIfInBounds_toArray, List.set_cons_zero, List.set_cons_succ]
          refine lay_take (i := 9) (v := ?vb9) rfl (by kernel_rfl) (by kernel_rfl) (by kernel_rfl) (fun _ _ _ h => h) (Or.inl ⟨by rfl, ?yb9⟩) (by assumption) ?_
          case yb9 => (intro w hSw; (try dsimp only at hSw); go_simp; try with_reducible rfl)
          try simp only [Act.put, List.setIfInBounds_toArray, List.set_cons_zero, List.set_cons_succ]
          refine lay_take (i := 10) (v := ?vb10) rfl (by kernel_rfl) (by kernel_rfl) (by kernel_rfl) (fun _ _ _ h => h) (Or.inl ⟨by rfl, ?yb10⟩) (by assumption) ?_
          case yb10 => (intro w hSw; (try dsimp only at hSw); go_simp; try with_reducible rfl)
          try simp only [Act.put, List.setIfInBounds_toArray, List.set_cons_zero, List.set_cons_succ]
          refine lay_take (i := 11) (v := ?vb11) rfl (by kernel_rfl) (by kernel_rfl) (by kernel_rfl) (fun _ _ _ h => h) (Or.inl ⟨by rfl, ?yb11⟩) (by assumption) ?_
          case yb11 => (intro w hSw; (try dsimp only at hSw); go_simp; try with_reducible rfl)
          try simp only [Act.put, List.setIfInBounds_toArray, List.set_cons_zero, List.set_cons_succ]
          refine lay_take (i := 12) (v := ?vb12) rfl (by kernel_rfl) (by kernel_rfl) (by kernel_rfl) (fun _ _ _ h => h) (Or.inl ⟨by rfl, ?yb12⟩) (by assumption) ?_
          case yb12 => (intro w hSw; (try dsimp only at hSw); go_simp; try with_reducible rfl)
          try simp only [Act.put, List.setIfInBounds_toArray, List.set_cons_zero, List.set_cons_succ]
          refine lay_take (i := 13) (v := ?vb13) rfl (by kernel_rfl) (by kernel_rfl) (by kernel_rfl) (fun _ _ _ h => h) (Or.inl ⟨by rfl, ?yb13⟩) (by assumption) ?_
          case yb13 => (intro w hSw; (try dsimp only at hSw); go_simp; try with_reducible rfl)
          try simp only [Act.put, List.setIfInBounds_toArray, List.set_cons_zero, List.set_cons_succ]
          refine lay_take (i := 14) (v := ?vb14) rfl (by kernel_rfl) (by kernel_rfl) (by kernel_rfl) (fun _ _ _ h => h) (Or.inl ⟨by rfl, ?yb14⟩) (by assumption) ?_
          case yb14 => (intro w hSw; (try dsimp only at hSw); go_simp; try with_reducible rfl)
          try simp only [Act.put, List.setIfInBounds_toArray, List.set_cons_zero, List.set_cons_succ]
          refine lay_take (i := 15) (v := ?vb15) rfl (by kernel_rfl) (by kernel_rfl) (by kernel_rfl) (fun _ _ _ h => h) (Or.inl ⟨by rfl, ?yb15⟩) (by assumption) ?_
          case yb15 => (intro w hSw; (try dsimp only at hSw); go_simp; try with_reducible rfl)
          try simp only [Act.put, List.setIfInBounds_toArray, List.set_cons_zero, List.set_cons_succ]
          refine lay_take (i := 16) (v := ?vb16) rfl (by kernel_rfl) (by kernel_rfl) (by kernel_rfl) (fun _ _ _ h => h) (Or.inl ⟨by rfl, ?yb16⟩) (by assumption) ?_
          case yb16 => (intro w hSw; (try dsimp only at hSw); go_simp; try with_reducible rfl)
          try simp only [Act.put, List.setIfInBounds_toArray, List.set_cons_zero, List.set_cons_succ]
          refine lay_take (i := 17) (v := ?vb17) rfl (by kernel_rfl) (by kernel_rfl) (by kernel_rfl) (fun _ _ _ h => h) (Or.inl ⟨by rfl, ?yb17⟩) (by assumption) ?_
          case yb17 => (intro w hSw; (try dsimp only at hSw); go_simp; try with_reducible rfl)
          try simp only [Act.put, List.setIfInBounds_toArray, List.set_cons_zero, List.set_cons_succ]
          refine lay_take (i := 18) (v := ?vb18) rfl (by kernel_rfl) (by kernel_rfl) (by kernel_rfl) (fun _ _ _ h => h) (Or.inl ⟨by rfl, ?yb18⟩) (by assumption) ?_
          case yb18 => (intro w hSw; (try dsimp only at hSw); go_simp; try with_reducible rfl)
          try simp only [Act.put, List.setIfInBounds_toArray, List.set_cons_zero, List.set_cons_succ]
          refine lay_take (i := 19) (v := ?vb19) rfl (by kernel_rfl) (by kernel_rfl) (by kernel_rfl) (fun _ _ _ h => h) (Or.inl ⟨by rfl, ?yb19⟩) (by assumption) ?_
          case yb19 => (intro w hSw; (try dsimp only at hSw); go_simp; try with_reducible rfl)
          try simp only [Act.put, List.setIfInBounds_toArray, List.set_cons_zero, List.set_cons_succ]
          refine lay_take (i := 20) (v := ?vb20) rfl (by kernel_rfl) (by kernel_rfl) (by kernel_rfl) (fun _ _ _ h => h) (Or.inl ⟨by rfl, ?yb20⟩) (by assumption) ?_
          case yb20 => (intro w hSw; (try dsimp only at hSw); go_simp; try with_reducible rfl)
          try simp only [Act.put, List.setIfInBounds_toArray, List.set_cons_zero, List.set_cons_succ]
          refine lay_take (i := 21) (v := undef) rfl (by kernel_rfl) (by kernel_rfl) (by kernel_rfl) (fun _ _ _ h => h) (Or.inr ⟨by rfl, rfl⟩) (by assumption) ?_
          try simp only [Act.put, List.setIfInBounds_toArray, List.set_cons_zero, List.set_cons_succ]
          refine lay_take (i := 22) (v := undef) rfl (by kernel_rfl) (by kernel_rfl) (by kernel_rfl) (fun _ _ _ h => h) (Or.inr ⟨by rfl, rfl⟩) (by assumption) ?_
          try simp only [Act.put, List.setIfInBounds_toArray, List.set_cons_zero, List.set_cons_succ]
          refine lay_take (i := 23) (v := ?vb23) rfl (by kernel_rfl) (by kernel_rfl) (by kernel_rfl) (fun _ _ _ h => h) (Or.inl ⟨by rfl, ?yb23⟩) (by assumption) ?_
          case yb23 => (intro w hSw; (try dsimp only at hSw); go_simp; try with_reducible rfl)
          try simp only [Act.put, List.setIfInBounds_toArray, List.set_cons_zero, List.set_cons_succ]
          refine lay_take (i := 24) (v := ?vb24) rfl (by kernel_rfl) (by kernel_rfl) (by kernel_rfl) (fun _ _ _ h => h) (Or.inl ⟨by rfl, ?yb24⟩) (by assumption) ?_
          case yb24 => (intro w hSw; (try dsimp only at hSw); go_simp; try with_reducible rfl)
          try simp only [Act.put, List.setIfInBounds_toArray, List.set_cons_zero, List.set_cons_succ]
          refine lay_take (i := 25) (v := ?vb25) rfl (by kernel_rfl) (by kernel_rfl) (by kernel_rfl) (fun _ _ _ h => h) (Or.inl ⟨by rfl, ?yb25⟩) (by assumption) ?_
          case yb25 => (intro w hSw; (try dsimp only at hSw); go_simp; try with_reducible rfl)
          try simp only [Act.put, List.setIfInBounds_toArray, List.set_cons_zero, List.set_cons_succ]
          refine lay_take (i := 26) (v := ?vb26) rfl (by kernel_rfl) (by kernel_rfl) (by kernel_rfl) (fun _ _ _ h => h) (Or.inl ⟨by rfl, ?yb26⟩) (by assumption) ?_
          case yb26 => (intro w hSw; (try dsimp only at hSw); go_simp; try with_reducible rfl)
          try simp only [Act.put, List.setIfInBounds_toArray, List.set_cons_zero, List.set_cons_succ]
          refine lay_take (i := 27) (v := ?vb27) rfl (by kernel_rfl) (by kernel_rfl) (by kernel_rfl) (fun _ _ _ h => h) (Or.inl ⟨by rfl, ?yb27⟩) (by assumption) ?_
          case yb27 => (intro w hSw; (try dsimp only at hSw); go_simp; try with_reducible rfl)
          try simp only [Act.put, List.setIfInBounds_toArray, List.set_cons_zero, List.set_cons_succ]
          refine lay_take (i := 28) (v := ?vb28) rfl (by kernel_rfl) (by kernel_rfl) (by kernel_rfl) (fun _ _ _ h => h) (Or.inl ⟨by rfl, ?yb28⟩) (by assumption) ?_
          case yb28 => (intro w hSw; (try dsimp only at hSw); go_simp; try with_reducible rfl)
          try simp only [Act.put, List.setIfInBounds_toArray, List.set_cons_zero, List.set_cons_succ]
          refine lay_take (i := 30) (v := ?vb30) rfl (by kernel_rfl) (by kernel_rfl) (by kernel_rfl) (fun _ _ _ h => h) (Or.inl ⟨by rfl, ?yb30⟩) (by assumption) ?_
          case yb30 => (intro w hSw; (try dsimp only at hSw); go_simp; try with_reducible rfl)
          try simp only [Act.put, List.setIfInBounds_toArray, List.set_cons_zero, List.set_cons_succ]
          refine wpAnyH_ready (rs := [29]) (by kernel_rfl) (by simp) ?_
          refine lay_cons rfl (fun KK hK => ?_) AllReadyH.nil
          go_simp
          refine (slot_tb HPSd.out.tb key1 HOK.out.1).mono ?_
          rintro e v20 ⟨rfl, b20⟩
          rw [HSL.out]
          refine hK.out _ _ ?_ (fun hHeld => ?_)
          · obtain ⟨hS0, hS1, hS2, hS3⟩ := hHeld
            exact ⟨cell_keep b20 hS0, cell_keep b20 hS1, cell_keep b20 hS2, cell_keep b20 hS3⟩
          clear hK KK
          try simp only [Act.put, List.setIfInBounds_toArray, List.set_cons_zero, List.set_cons_succ]
          refine lay_take (i := 31) (v := ?vb31) rfl (by kernel_rfl) (by kernel_rfl) (by kernel_rfl) (fun _ _ _ h => h) (Or.inl ⟨by rfl, ?yb31⟩) (by assumption) ?_
          case yb31 => (intro w hSw; (try dsimp only at hSw); go_simp; try with_reducible rfl)
          try simp only [Act.put, List.setIfInBounds_toArray, List.set_cons_zero, List.set_cons_succ]
          refine lay_take (i := 32) (v := ?vb32) rfl (by kernel_rfl) (by kernel_rfl) (by kernel_rfl) (fun _ _ _ h => h) (Or.inl ⟨by rfl, ?yb32⟩) (by assumption) ?_
          case yb32 => (intro w hSw; (try dsimp only at hSw); go_simp; try with_reducible rfl)
          try simp only [Act.put, List.setIfInBounds_toArray, List.set_cons_zero, List.set_cons_succ]
          refine lay_take (i := 33) (v := ?vb33) rfl (by kernel_rfl) (by kernel_rfl) (by kernel_rfl) (fun _ _ _ h => h) (Or.inl ⟨by rfl, ?yb33⟩) (by assumption) ?_
          case yb33 => (intro w hSw; (try dsimp only at hSw); go_simp; try with_reducible rfl)
          try simp only [Act.put, List.setIfInBounds_toArray, List.set_cons_zero, List.set_cons_succ]
          refine lay_take (i := 34) (v := ?vb34) rfl (by kernel_rfl) (by kernel_rfl) (by kernel_rfl) (fun _ _ _ h => h) (Or.inl ⟨by rfl, ?yb34⟩) (by assumption) ?_
          case yb34 => (intro w hSw; (try dsimp only at hSw); go_simp; try with_reducible rfl)
          try simp only [Act.put, List.setIfInBounds_toArray, List.set_cons_zero, List.set_cons_succ]
          refine lay_take (i := 36) (v := ?vb36) rfl (by kernel_rfl) (by kernel_rfl) (by kernel_rfl) (fun _ _ _ h => h) (Or.inl ⟨by rfl, ?yb36⟩) (by assumption) ?_
          case yb36 => (intro w hSw; (try dsimp only at hSw); go_simp; try with_reducible rfl)
          try simp only [Act.put, List.setIfInBounds_toArray, List.set_cons_zero, List.set_cons_succ]
          refine wpAnyH_ready (rs := [35]) (by kernel_rfl) (by simp) ?_
          refine lay_cons rfl (fun KK hK => ?_) AllReadyH.nil
          go_simp
          refine (len_below (HPSd.out.next b20).tb).mono ?_
          rintro e v15 ⟨rfl, b15⟩
          refine hK.out _ _ ?_ (fun hHeld => ?_)
          · obtain ⟨hS0, hS1, hS2, hS3⟩ := hHeld
            exact ⟨cell_keep b15 hS0, cell_keep b15 hS1, cell_keep b15 hS2, cell_keep b15 hS3⟩
          clear hK KK
          try simp only [Act.put, List.setIfInBounds_toArray, List.set_cons_zero, List.set_cons_succ]
          refine wpAnyH_ready (rs := [37]) (by kernel_rfl) (by simp) ?_
          refine lay_cons rfl (fun KK hK => ?_) AllReadyH.nil
          go_simp
          refine (rlen_m HPSd.out.tb.good.len ((HPSd.out.next b20).next b15).ref HPSd.out.tb.good (K : Int)).mono ?_
          rintro e v21 ⟨rfl, b21⟩
          refine hK.out _ _ ?_ (fun hHeld => ?_)
          · obtain ⟨hS0, hS1, hS2, hS3⟩ := hHeld
            exact ⟨cell_keep b21 hS0, cell_keep b21 hS1, cell_keep b21 hS2, cell_keep b21 hS3⟩
          clear hK KK
          try simp only [Act.put, List.setIfInBounds_toArray, List.set_cons_zero, List.set_cons_succ]
          refine lay_take (i := 38) (v := ?vb38) rfl (by kernel_rfl) (by kernel_rfl) (by kernel_rfl) (fun _ _ _ h => h) (Or.inl ⟨by rfl, ?yb38⟩) (by assumption) ?_
          case yb38 => (intro w hSw; (try dsimp only at hSw); go_simp; try with_reducible rfl)
          try simp only [Act.put, List.setIfInBounds_toArray, List.set_cons_zero, List.set_cons_succ]
          refine lay_take (i := 39) (v := ?vb39) rfl (by kernel_rfl) (by kernel_rfl) (by kernel_rfl) (fun _ _ _ h => h) (Or.inl ⟨by rfl, ?yb39⟩) (by assumption) ?_
          case yb39 => (intro w hSw; (try dsimp only at hSw); go_simp; try with_reducible rfl)
          try simp only [Act.put, List.setIfInBounds_toArray, List.set_cons_zero, List.set_cons_succ]
          refine wpAnyH_done (by kernel_rfl) ?_ _
          have HPS12 := Lib.hid (((HPSd.out.next b20).next b15).next b21)
          clear HPSd b20 b15 b21 HPS9 q2 x0 x1 r2
          go_wp2_with fail
          go_roundw
          case rel => exact ⟨k + 1, _, _, _, by omega, by go_num, HPS12⟩
          case measure => simp [intOf]; omega
        · have HGET := Lib.hid (getP_no HS8.out.tb.good hs)
          have HSL := Lib.hid (slot_neg HS8.out.tb.good hs)
          clear hs
          go_wp2_with fail
          refine (get_tb HS8.out.tb key1 HOK.out.1).mono ?_
          rintro e w8 ⟨rfl, hB⟩
          rw [HGET.out]
          have HPS8 := Lib.hid (HS8.out.next hB)
          have q2' := cell_keep hB q2
          clear hB HS8 q2
          obtain ⟨x0, x1, _, _⟩ := zero_two HPS8.out.box
          have hat := rat_any HPS8.out.ref HPS8.out.tb.good (K : Int) key1
          rw [HPS8.out.tb.good.len] at hat
          go_wp2_with fail
          refine (hat).mono ?_
          rintro e w9 ⟨rfl, hB⟩
          rw [HSL.out]
          have HPS9 := Lib.hid (HPS8.out.next hB)
          have q2 := cell_keep hB q2'
          clear hB HPS8 q2' x0 x1 hat
          obtain ⟨x0, x1, _, _⟩ := zero_two HPS9.out.box
          have HPSd := Lib.hid (HPS9.out.next ((Below.refl _ _).drew))
          go_wp2_with fail
          refine wp_region_held_drew (S := fun w' => w'.cell? ⟨bx, 0, none⟩ = some (.slice (some ⟨gr5, 0, none⟩) (slotsFor K) (slotsFor K)) ∧ w'.cell? ⟨bx, 1, none⟩ = some (.int .i64 K) ∧ w'.cell? ⟨wr.heap.size, 2, none⟩ = some (.string key1)) (by kernel_rfl) ?_ (fun hHeld => ?_)
          · exact ⟨drew_keep x0, drew_keep x1, drew_keep q2⟩
          refine lay_take (i := 0) (v := ?vc0) rfl (by kernel_rfl) (by kernel_rfl) (by kernel_rfl) (fun _ _ _ h => h) (Or.inl ⟨by rfl, ?yc0⟩) (by assumption) ?_
          case yc0 => (intro w hSw; (try dsimp only at hSw); go_simp; try with_reducible rfl)
          try simp only [Act.put, List.setIfInBounds_toArray, List.set_cons_zero, List.set_cons_succ]
          refine lay_take (i := 1) (v := ?vc1) rfl (by kernel_rfl) (by kernel_rfl) (by kernel_rfl) (fun _ _ _ h => h) (Or.inl ⟨by rfl, ?yc1⟩) (by assumption) ?_
          case yc1 => (intro w hSw; (try dsimp only at hSw); go_simp; try with_reducible rfl)
          try simp only [Act.put, List.setIfInBounds_toArray, List.set_cons_zero, List.set_cons_succ]
          refine lay_take (i := 2) (v := ?vc2) rfl (by kernel_rfl) (by kernel_rfl) (by kernel_rfl) (fun _ _ _ h => h) (Or.inl ⟨by rfl, ?yc2⟩) (by assumption) ?_
          case yc2 => (intro w hSw; (try dsimp only at hSw); go_simp; try with_reducible rfl)
          try simp only [Act.put, List.setIfInBounds_toArray, List.set_cons_zero, List.set_cons_succ]
          refine lay_take (i := 3) (v := ?vc3) rfl (by kernel_rfl) (by kernel_rfl) (by kernel_rfl) (fun _ _ _ h => h) (Or.inl ⟨by rfl, ?yc3⟩) (by assumption) ?_
          case yc3 => (intro w hSw; (try dsimp only at hSw); go_simp; try with_reducible rfl)
          try simp only [Act.put, List.setIfInBounds_toArray, List.set_cons_zero, List.set_cons_succ]
          refine lay_take (i := 4) (v := ?vc4) rfl (by kernel_rfl) (by kernel_rfl) (by kernel_rfl) (fun _ _ _ h => h) (Or.inl ⟨by rfl, ?yc4⟩) (by assumption) ?_
          case yc4 => (intro w hSw; (try dsimp only at hSw); go_simp; try with_reducible rfl)
          try simp only [Act.put, List.setIfInBounds_toArray, List.set_cons_zero, List.set_cons_succ]
          refine lay_take (i := 5) (v := ?vc5) rfl (by kernel_rfl) (by kernel_rfl) (by kernel_rfl) (fun _ _ _ h => h) (Or.inl ⟨by rfl, ?yc5⟩) (by assumption) ?_
          case yc5 => (intro w hSw; (try dsimp only at hSw); go_simp; try with_reducible rfl)
          try simp only [Act.put, List.setIfInBounds_toArray, List.set_cons_zero, List.set_cons_succ]
          refine lay_take (i := 6) (v := ?vc6) rfl (by kernel_rfl) (by kernel_rfl) (by kernel_rfl) (fun _ _ _ h => h) (Or.inl ⟨by rfl, ?yc6⟩) (by assumption) ?_
          case yc6 => (intro w hSw; (try dsimp only at hSw); go_simp; try with_reducible rfl)
          try simp only [Act.put, List.setIfInBounds_toArray, List.set_cons_zero, List.set_cons_succ]
          refine lay_take (i := 7) (v := undef) rfl (by kernel_rfl) (by kernel_rfl) (by kernel_rfl) (fun _ _ _ h => h) (Or.inr ⟨by rfl, rfl⟩) (by assumption) ?_
          try simp only [Act.put, List.setIfInBounds_toArray, List.set_cons_zero, List.set_cons_succ]
          refine lay_take (i := 8) (v := undef) rfl (by kernel_rfl) (by kernel_rfl) (by kernel_rfl) (fun _ _ _ h => h) (Or.inr ⟨by rfl, rfl⟩) (by assumption) ?_
          try simp only [Act.put, List.setIfInBounds_toArray, List.set_cons_zero, List.set_cons_succ]
          refine lay_take (i := 9) (v := undef) rfl (by kernel_rfl) (by kernel_rfl) (by kernel_rfl) (fun _ _ _ h => h) (Or.inr ⟨by rfl, rfl⟩) (by assumption) ?_
          try simp only [Act.put, List.setIfInBounds_toArray, List.set_cons_zero, List.set_cons_succ]
          refine lay_take (i := 10) (v := undef) rfl (by kernel_rfl) (by kernel_rfl) (by kernel_rfl) (fun _ _ _ h => h) (Or.inr ⟨by rfl, rfl⟩) (by assumption) ?_
          try simp only [Act.put, List.setIfInBounds_toArray, List.set_cons_zero, List.set_cons_succ]
          refine lay_take (i := 11) (v := undef) rfl (by kernel_rfl) (by kernel_rfl) (by kernel_rfl) (fun _ _ _ h => h) (Or.inr ⟨by rfl, rfl⟩) (by assumption) ?_
          try simp only [Act.put, List.setIfInBounds_toArray, List.set_cons_zero, List.set_cons_succ]
          refine lay_take (i := 12) (v := undef) rfl (by kernel_rfl) (by kernel_rfl) (by kernel_rfl) (fun _ _ _ h => h) (Or.inr ⟨by rfl, rfl⟩) (by assumption) ?_
          try simp only [Act.put, List.setIfInBounds_toArray, List.set_cons_zero, List.set_cons_succ]
          refine lay_take (i := 13) (v := undef) rfl (by kernel_rfl) (by kernel_rfl) (by kernel_rfl) (fun _ _ _ h => h) (Or.inr ⟨by rfl, rfl⟩) (by assumption) ?_
          try simp only [Act.put, List.setIfInBounds_toArray, List.set_cons_zero, List.set_cons_succ]
          refine lay_take (i := 14) (v := undef) rfl (by kernel_rfl) (by kernel_rfl) (by kernel_rfl) (fun _ _ _ h => h) (Or.inr ⟨by rfl, rfl⟩) (by assumption) ?_
          try simp only [Act.put, List.setIfInBounds_toArray, List.set_cons_zero, List.set_cons_succ]
          refine lay_take (i := 15) (v := ?vc15) rfl (by kernel_rfl) (by kernel_rfl) (by kernel_rfl) (fun _ _ _ h => h) (Or.inl ⟨by rfl, ?yc15⟩) (by assumption) ?_
          case yc15 => (intro w hSw; (try dsimp only at hSw); go_simp; try with_reducible rfl)
          try simp only [Act.put, List.setIfInBounds_toArray, List.set_cons_zero, List.set_cons_succ]
          refine lay_take (i := 16) (v := ?vc16) rfl (by kernel_rfl) (by kernel_rfl) (by kernel_rfl) (fun _ _ _ h => h) (Or.inl ⟨by rfl, ?yc16⟩) (by assumption) ?_
          case yc16 => (intro w hSw; (try dsimp only at hSw); go_simp; try with_reducible rfl)
          try simp only [Act.put, List.setIfInBounds_toArray, List.set_cons_zero, List.set_cons_succ]
          refine lay_take (i := 17) (v := ?vc17) rfl (by kernel_rfl) (by kernel_rfl) (by kernel_rfl) (fun _ _ _ h => h) (Or.inl ⟨by rfl, ?yc17⟩) (by assumption) ?_
          case yc17 => (intro w hSw; (try dsimp only at hSw); go_simp; try with_reducible rfl)
          try simp only [Act.put, List.setIfInBounds_toArray, List.set_cons_zero, List.set_cons_succ]
          refine lay_take (i := 18) (v := ?vc18) rfl (by kernel_rfl) (by kernel_rfl) (by kernel_rfl) (fun _ _ _ h => h) (Or.inl ⟨by rfl, ?yc18⟩) (by assumption) ?_
          case yc18 => (intro w hSw; (try dsimp only at hSw); go_simp; try with_reducible rfl)
          try simp only [Act.put, List.setIfInBounds_toArray, List.set_cons_zero, List.set_cons_succ]
          refine lay_take (i := 19) (v := ?vc19) rfl (by kernel_rfl) (by kernel_rfl) (by kernel_rfl) (fun _ _ _ h => h) (Or.inl ⟨by rfl, ?yc19⟩) (by assumption) ?_
          case yc19 => (intro w hSw; (try dsimp only at hSw); go_simp; try with_reducible rfl)
          try simp only [Act.put, List.setIfInBounds_toArray, List.set_cons_zero, List.set_cons_succ]
          refine lay_take (i := 20) (v := ?vc20) rfl (by kernel_rfl) (by kernel_rfl) (by kernel_rfl) (fun _ _ _ h => h) (Or.inl ⟨by rfl, ?yc20⟩) (by assumption) ?_
          case yc20 => (intro w hSw; (try dsimp only at hSw); go_simp; try with_reducible rfl)
          try simp only [Act.put, List.setIfInBounds_toArray, List.set_cons_zero, List.set_cons_succ]
          refine lay_take (i := 21) (v := ?vc21) rfl (by kernel_rfl) (by kernel_rfl) (by kernel_rfl) (fun _ _ _ h => h) (Or.inl ⟨by rfl, ?yc21⟩) (by assumption) ?_
          case yc21 => (intro w hSw; (try dsimp only at hSw); go_simp; try with_reducible rfl)
          try simp only [Act.put, List.setIfInBounds_toArray, List.set_cons_zero, List.set_cons_succ]
          refine lay_take (i := 22) (v := ?vc22) rfl (by kernel_rfl) (by kernel_rfl) (by kernel_rfl) (fun _ _ _ h => h) (Or.inl ⟨by rfl, ?yc22⟩) (by assumption) ?_
          case yc22 => (intro w hSw; (try dsimp only at hSw); go_simp; try with_reducible rfl)
          try simp only [Act.put, List.setIfInBounds_toArray, List.set_cons_zero, List.set_cons_succ]
          refine lay_take (i := 23) (v := ?vc23) rfl (by kernel_rfl) (by kernel_rfl) (by kernel_rfl) (fun _ _ _ h => h) (Or.inl ⟨by rfl, ?yc23⟩) (by assumption) ?_
          case yc23 => (intro w hSw; (try dsimp only at hSw); go_simp; try with_reducible rfl)
          try simp only [Act.put, List.setIfInBounds_toArray, List.set_cons_zero, List.set_cons_succ]
          refine lay_take (i := 24) (v := ?vc24) rfl (by kernel_rfl) (by kernel_rfl) (by kernel_rfl) (fun _ _ _ h => h) (Or.inl ⟨by rfl, ?yc24⟩) (by assumption) ?_
          case yc24 => (intro w hSw; (try dsimp only at hSw); go_simp; try with_reducible rfl)
          try simp only [Act.put, List.setIfInBounds_toArray, List.set_cons_zero, List.set_cons_succ]
          refine lay_take (i := 25) (v := ?vc25) rfl (by kernel_rfl) (by kernel_rfl) (by kernel_rfl) (fun _ _ _ h => h) (Or.inl ⟨by rfl, ?yc25⟩) (by assumption) ?_
          case yc25 => (intro w hSw; (try dsimp only at hSw); go_simp; try with_reducible rfl)
          try simp only [Act.put, List.setIfInBounds_toArray, List.set_cons_zero, List.set_cons_succ]
          refine lay_take (i := 26) (v := ?vc26) rfl (by kernel_rfl) (by kernel_rfl) (by kernel_rfl) (fun _ _ _ h => h) (Or.inl ⟨by rfl, ?yc26⟩) (by assumption) ?_
          case yc26 => (intro w hSw; (try dsimp only at hSw); go_simp; try with_reducible rfl)
          try simp only [Act.put, List.setIfInBounds_toArray, List.set_cons_zero, List.set_cons_succ]
          refine lay_take (i := 27) (v := ?vc27) rfl (by kernel_rfl) (by kernel_rfl) (by kernel_rfl) (fun _ _ _ h => h) (Or.inl ⟨by rfl, ?yc27⟩) (by assumption) ?_
          case yc27 => (intro w hSw; (try dsimp only at hSw); go_simp; try with_reducible rfl)
          try simp only [Act.put, List.setIfInBounds_toArray, List.set_cons_zero, List.set_cons_succ]
          refine lay_take (i := 28) (v := ?vc28) rfl (by kernel_rfl) (by kernel_rfl) (by kernel_rfl) (fun _ _ _ h => h) (Or.inl ⟨by rfl, ?yc28⟩) (by assumption) ?_
          case yc28 => (intro w hSw; (try dsimp only at hSw); go_simp; try with_reducible rfl)
          try simp only [Act.put, List.setIfInBounds_toArray, List.set_cons_zero, List.set_cons_succ]
          refine lay_take (i := 30) (v := ?vc30) rfl (by kernel_rfl) (by kernel_rfl) (by kernel_rfl) (fun _ _ _ h => h) (Or.inl ⟨by rfl, ?yc30⟩) (by assumption) ?_
          case yc30 => (intro w hSw; (try dsimp only at hSw); go_simp; try with_reducible rfl)
          try simp only [Act.put, List.setIfInBounds_toArray, List.set_cons_zero, List.set_cons_succ]
          refine wpAnyH_ready (rs := [29]) (by kernel_rfl) (by simp) ?_
          refine lay_cons rfl (fun KK hK => ?_) AllReadyH.nil
          go_simp
          refine (slot_tb HPSd.out.tb key1 HOK.out.1).mono ?_
          rintro e v20 ⟨rfl, b20⟩
          rw [HSL.out]
          refine hK.out _ _ ?_ (fun hHeld => ?_)
          · obtain ⟨hS0, hS1, hS2⟩ := hHeld
            exact ⟨cell_keep b20 hS0, cell_keep b20 hS1, cell_keep b20 hS2⟩
          clear hK KK
          try simp only [Act.put, List.setIfInBounds_toArray, List.set_cons_zero, List.set_cons_succ]
          refine lay_take (i := 31) (v := ?vc31) rfl (by kernel_rfl) (by kernel_rfl) (by kernel_rfl) (fun _ _ _ h => h) (Or.inl ⟨by rfl, ?yc31⟩) (by assumption) ?_
          case yc31 => (intro w hSw; (try dsimp only at hSw); go_simp; try with_reducible rfl)
          try simp only [Act.put, List.setIfInBounds_toArray, List.set_cons_zero, List.set_cons_succ]
          refine lay_take (i := 32) (v := ?vc32) rfl (by kernel_rfl) (by kernel_rfl) (by kernel_rfl) (fun _ _ _ h => h) (Or.inl ⟨by rfl, ?yc32⟩) (by assumption) ?_
          case yc32 => (intro w hSw; (try dsimp only at hSw); go_simp; try with_reducible rfl)
          try simp only [Act.put, List.setIfInBounds_toArray, List.set_cons_zero, List.set_cons_succ]
          refine lay_take (i := 33) (v := ?vc33) rfl (by kernel_rfl) (by kernel_rfl) (by kernel_rfl) (fun _ _ _ h => h) (Or.inl ⟨by rfl, ?yc33⟩) (by assumption) ?_
          case yc33 => (intro w hSw; (try dsimp only at hSw); go_simp; try with_reducible rfl)
          try simp only [Act.put, List.setIfInBounds_toArray, List.set_cons_zero, List.set_cons_succ]
          refine lay_take (i := 34) (v := ?vc34) rfl (by kernel_rfl) (by kernel_rfl) (by kernel_rfl) (fun _ _ _ h => h) (Or.inl ⟨by rfl, ?yc34⟩) (by assumption) ?_
          case yc34 => (intro w hSw; (try dsimp only at hSw); go_simp; try with_reducible rfl)
          try simp only [Act.put, List.setIfInBounds_toArray, List.set_cons_zero, List.set_cons_succ]
          refine lay_take (i := 36) (v := ?vc36) rfl (by kernel_rfl) (by kernel_rfl) (by kernel_rfl) (fun _ _ _ h => h) (Or.inl ⟨by rfl, ?yc36⟩) (by assumption) ?_
          case yc36 => (intro w hSw; (try dsimp only at hSw); go_simp; try with_reducible rfl)
          try simp only [Act.put, List.setIfInBounds_toArray, List.set_cons_zero, List.set_cons_succ]
          refine wpAnyH_ready (rs := [35]) (by kernel_rfl) (by simp) ?_
          refine lay_cons rfl (fun KK hK => ?_) AllReadyH.nil
          go_simp
          refine (len_below (HPSd.out.next b20).tb).mono ?_
          rintro e v15 ⟨rfl, b15⟩
          refine hK.out _ _ ?_ (fun hHeld => ?_)
          · obtain ⟨hS0, hS1, hS2⟩ := hHeld
            exact ⟨cell_keep b15 hS0, cell_keep b15 hS1, cell_keep b15 hS2⟩
          clear hK KK
          try simp only [Act.put, List.setIfInBounds_toArray, List.set_cons_zero, List.set_cons_succ]
          refine wpAnyH_ready (rs := [37]) (by kernel_rfl) (by simp) ?_
          refine lay_cons rfl (fun KK hK => ?_) AllReadyH.nil
          go_simp
          refine (rlen_m HPSd.out.tb.good.len ((HPSd.out.next b20).next b15).ref HPSd.out.tb.good (K : Int)).mono ?_
          rintro e v21 ⟨rfl, b21⟩
          refine hK.out _ _ ?_ (fun hHeld => ?_)
          · obtain ⟨hS0, hS1, hS2⟩ := hHeld
            exact ⟨cell_keep b21 hS0, cell_keep b21 hS1, cell_keep b21 hS2⟩
          clear hK KK
          try simp only [Act.put, List.setIfInBounds_toArray, List.set_cons_zero, List.set_cons_succ]
          refine lay_take (i := 38) (v := ?vc38) rfl (by kernel_rfl) (by kernel_rfl) (by kernel_rfl) (fun _ _ _ h => h) (Or.inl ⟨by rfl, ?yc38⟩) (by assumption) ?_
          case yc38 => (intro w hSw; (try dsimp only at hSw); go_simp; try with_reducible rfl)
          try simp only [Act.put, List.setIfInBounds_toArray, List.set_cons_zero, List.set_cons_succ]
          refine lay_take (i := 39) (v := ?vc39) rfl (by kernel_rfl) (by kernel_rfl) (by kernel_rfl) (fun _ _ _ h => h) (Or.inl ⟨by rfl, ?yc39⟩) (by assumption) ?_
          case yc39 => (intro w hSw; (try dsimp only at hSw); go_simp; try with_reducible rfl)
          try simp only [Act.put, List.setIfInBounds_toArray, List.set_cons_zero, List.set_cons_succ]
          refine wpAnyH_done (by kernel_rfl) ?_ _
          have HPS12 := Lib.hid (((HPSd.out.next b20).next b15).next b21)
          clear HPSd b20 b15 b21 HPS9 q2 x0 x1
          go_wp2_with fail
          go_roundw
          case rel => exact ⟨k + 1, _, _, _, by omega, by go_num, HPS12⟩
          case measure => simp [intOf]; omega
      · have h0z : (kind == 0) = false := beq_eq_false_iff_ne.2 h0
        by_cases h1 : kind = 1
        · subst h1
          go_wp2_with fail
          refine (rdrop_m HS6.out.tb.good.len HS6.out.ref HS6.out.tb.good key1).mono ?_
          rintro e w5 ⟨gr5, rfl, hr, hg5, hB⟩
          have HS7 := Lib.hid (HS6.out.swap hB hr hg5)
          obtain ⟨y0, y1, y2, y3⟩ := zero_two (HS6.out.next hB).box
          have q2' := set2_far (j := 0) (k := 1) (u := .slice (some ⟨gr5, 0, none⟩) (slotsFor K) (slotsFor K)) (v := .int .i64 K) nx (cell_keep hB q2)
          clear hB hr hg5 a0 a1 a2 q0 q1 q2 x0 x1 x2 x3
          go_upto_region 19 with fail
          obtain ⟨w6, hw6⟩ : ∃ w6, w6 = ((w5.setCell ⟨bx, 0, none⟩ (.slice (some ⟨gr5, 0, none⟩) (slotsFor K) (slotsFor K))).setCell ⟨bx, 1, none⟩ (.int .i64 K)) := ⟨_, rfl⟩
          rw [← hw6] at HS7 q2' ⊢
          have q2 := q2'
          clear hw6 q2' y0 y1 y2 y3 HS6
          go_wp2_with fail
          refine (drop_tb HS7.out.tb key1 HOK.out.1).mono ?_
          rintro e w7 ⟨rfl, ht, hN⟩
          have HS8 := Lib.hid (HS7.out.turn hN ht)
          have q2' := near_keep hN nb ng q2
          clear ht hN q2 HS7
          have q2 := q2'
          clear q2'
          obtain ⟨L1, n1, hL1⟩ : ∃ L1 n1, L1 = (dropP L n key1).2.1 ∧ n1 = (dropP L n key1).2.2 := ⟨_, _, rfl, rfl⟩
          rw [← hL1.1, ← hL1.2] at HS8
          obtain ⟨code, hcode⟩ : ∃ code, (dropP L n key1).1 = code := ⟨_, rfl⟩
          rw [hcode]
          clear hL1 hcode
          by_cases hs : key1 ∈ keysP L1
          · obtain ⟨p, hp, hpu, hpk⟩ := mem_keysP.1 hs
            have hsl := (slot_here HS8.out.tb.good hs).1
            have hhit := HS8.out.tb.good.hit hp hpu
            have hget := getP_yes HS8.out.tb.good (ix_mem hp) hpu
            rw [hpk] at hhit hget
            rw [hhit] at hsl
            have HSL := Lib.hid hsl
            have HGET := Lib.hid hget
            have HIX := Lib.hid (ix_get hp)
            have hpm : p < slotsFor K := by rw [← HS8.out.tb.good.len]; exact hp
            have hp0 : (0 : Int) ≤ (p : Int) := by omega
            have hp1 : (p : Int) < (slotsFor K : Int) := by omega
            clear hs hp hpu hpk hsl hhit hget
            go_wp2_with fail
            refine (get_tb HS8.out.tb key1 HOK.out.1).mono ?_
            rintro e w8 ⟨rfl, hB⟩
            rw [HGET.out]
            have HPS8 := Lib.hid (HS8.out.next hB)
            have q2' := cell_keep hB q2
            clear hB HS8 q2
            obtain ⟨x0, x1, _, _⟩ := zero_two HPS8.out.box
            have hat := rat_any HPS8.out.ref HPS8.out.tb.good (K : Int) key1
            rw [HPS8.out.tb.good.len] at hat
            go_wp2_with fail
            refine (hat).mono ?_
            rintro e w9 ⟨rfl, hB⟩
            rw [HSL.out]
            have HPS9 := Lib.hid (HPS8.out.next hB)
            have q2 := cell_keep hB q2'
            clear hB HPS8 q2' x0 x1 hat
            obtain ⟨x0, x1, _, _⟩ := zero_two HPS9.out.box
            obtain ⟨-, -, r2⟩ := HPS9.out.ref.at HIX.out
            have HPSd := Lib.hid (HPS9.out.next ((Below.refl _ _).drew))
            go_wp2_with fail
            refine wp_region_held_drew (S := fun w' => w'.cell? ⟨bx, 0, none⟩ = some (.slice (some ⟨gr5, 0, none⟩) (slotsFor K) (slotsFor K)) ∧ w'.cell? ⟨bx, 1, none⟩ = some (.int .i64 K) ∧ w'.cell? ⟨wr.heap.size, 2, none⟩ = some (.string key1) ∧ w'.cell? ⟨gr5, p * 3 + 2, none⟩ = some (.int .i64 (ix L1 p).v)) (by kernel_rfl) ?_ (fun hHeld => ?_)
            · exact ⟨drew_keep x0, drew_keep x1, drew_keep q2, drew_keep r2⟩
            refine lay_take (i := 0) (v := ?vd0) rfl (by kernel_rfl) (by kernel_rfl) (by kernel_rfl) (fun _ _ _ h => h) (Or.inl ⟨by rfl, ?yd0⟩) (by assumption) ?_
            case yd0 => (intro w hSw; (try dsimp only at hSw); go_simp; try with_reducible rfl)
            try simp only [Act.put, List.setIfInBounds_toArray, List.set_cons_zero, List.set_cons_succ]
            refine lay_take (i := 1) (v := ?vd1) rfl (by kernel_rfl) (by kernel_rfl) (by kernel_rfl) (fun _ _ _ h => h) (Or.inl ⟨by rfl, ?yd1⟩) (by assumption) ?_
            case yd1 => (intro w hSw; (try dsimp only at hSw); go_simp; try with_reducible rfl)
            try simp only [Act.put, List.setIfInBounds_toArray, List.set_cons_zero, List.set_cons_succ]
            refine lay_take (i := 2) (v := ?vd2) rfl (by kernel_rfl) (by kernel_rfl) (by kernel_rfl) (fun _ _ _ h => h) (Or.inl ⟨by rfl, ?yd2⟩) (by assumption) ?_
            case yd2 => (intro w hSw; (try dsimp only at hSw); go_simp; try with_reducible rfl)
            try simp only [Act.put, List.setIfInBounds_toArray, List.set_cons_zero, List.set_cons_succ]
            refine lay_take (i := 3) (v := ?vd3) rfl (by kernel_rfl) (by kernel_rfl) (by kernel_rfl) (fun _ _ _ h => h) (Or.inl ⟨by rfl, ?yd3⟩) (by assumption) ?_
            case yd3 => (intro w hSw; (try dsimp only at hSw); go_simp; try with_reducible rfl)
            try simp only [Act.put, List.setIfInBounds_toArray, List.set_cons_zero, List.set_cons_succ]
            refine lay_take (i := 4) (v := ?vd4) rfl (by kernel_rfl) (by kernel_rfl) (by kernel_rfl) (fun _ _ _ h => h) (Or.inl ⟨by rfl, ?yd4⟩) (by assumption) ?_
            case yd4 => (intro w hSw; (try dsimp only at hSw); go_simp; try with_reducible rfl)
            try simp only [Act.put, List.setIfInBounds_toArray, List.set_cons_zero, List.set_cons_succ]
            refine lay_take (i := 5) (v := ?vd5) rfl (by kernel_rfl) (by kernel_rfl) (by kernel_rfl) (fun _ _ _ h => h) (Or.inl ⟨by rfl, ?yd5⟩) (by assumption) ?_
            case yd5 => (intro w hSw; (try dsimp only at hSw); go_simp; try with_reducible rfl)
            try simp only [Act.put, List.setIfInBounds_toArray, List.set_cons_zero, List.set_cons_succ]
            refine lay_take (i := 6) (v := ?vd6) rfl (by kernel_rfl) (by kernel_rfl) (by kernel_rfl) (fun _ _ _ h => h) (Or.inl ⟨by rfl, ?yd6⟩) (by assumption) ?_
            case yd6 => (intro w hSw; (try dsimp only at hSw); go_simp; try with_reducible rfl)
            try simp only [Act.put, List.setIfInBounds_toArray, List.set_cons_zero, List.set_cons_succ]
            refine lay_take (i := 7) (v := ?vd7) rfl (by kernel_rfl) (by kernel_rfl) (by kernel_rfl) (fun _ _ _ h => h) (Or.inl ⟨by rfl, ?yd7⟩) (by assumption) ?_
            case yd7 => (intro w hSw; (try dsimp only at hSw); go_simp; try with_reducible rfl)
            try simp only [Act.put, List.setIfInBounds_toArray, List.set_cons_zero, List.set_cons_succ]
            refine lay_take (i := 8) (v := ?vd8) rfl (by kernel_rfl) (by kernel_rfl) (by kernel_rfl) (fun _ _ _ h => h) (Or.inl ⟨by rfl, ?yd8⟩) (by assumption) ?_
            case yd8 => (intro w hSw; (try dsimp only at hSw); go_simp; try with_reducible rfl)
            try simp only [Act.put, List.setIfInBounds_toArray, List.set_cons_zero, List.set_cons_succ]
            refine lay_take (i := 9) (v := ?vd9) rfl (by kernel_rfl) (by kernel_rfl) (by kernel_rfl) (fun _ _ _ h => h) (Or.inl ⟨by rfl, ?yd9⟩) (by assumption) ?_
            case yd9 => (intro w hSw; (try dsimp only at hSw); go_simp; try with_reducible rfl)
            try simp only [Act.put, List.setIfInBounds_toArray, List.set_cons_zero, List.set_cons_succ]
            refine lay_take (i := 10) (v := ?vd10) rfl (by kernel_rfl) (by kernel_rfl) (by kernel_rfl) (fun _ _ _ h => h) (Or.inl ⟨by rfl, ?yd10⟩) (by assumption) ?_
            case yd10 => (intro w hSw; (try dsimp only at hSw); go_simp; try with_reducible rfl)
            try simp only [Act.put, List.setIfInBounds_toArray, List.set_cons_zero, List.set_cons_succ]
            refine lay_take (i := 11) (v := ?vd11) rfl (by kernel_rfl) (by kernel_rfl) (by kernel_rfl) (fun _ _ _ h => h) (Or.inl ⟨by rfl, ?yd11⟩) (by assumption) ?_
            case yd11 => (intro w hSw; (try dsimp only at hSw); go_simp; try with_reducible rfl)
            try simp only [Act.put, List.setIfInBounds_toArray, List.set_cons_zero, List.set_cons_succ]
            refine lay_take (i := 12) (v := ?vd12) rfl (by kernel_rfl) (by kernel_rfl) (by kernel_rfl) (fun _ _ _ h => h) (Or.inl ⟨by rfl, ?yd12⟩) (by assumption) ?_
            case yd12 => (intro w hSw; (try dsimp only at hSw); go_simp; try with_reducible rfl)
            try simp only [Act.put, List.setIfInBounds_toArray, List.set_cons_zero, List.set_cons_succ]
            refine lay_take (i := 13) (v := ?vd13) rfl (by kernel_rfl) (by kernel_rfl) (by kernel_rfl) (fun _ _ _ h => h) (Or.inl ⟨by rfl, ?yd13⟩) (by assumption) ?_
            case yd13 => (intro w hSw; (try dsimp only at hSw); go_simp; try with_reducible rfl)
            try simp only [Act.put, List.setIfInBounds_toArray, List.set_cons_zero, List.set_cons_succ]
            refine lay_take (i := 14) (v := ?vd14) rfl (by kernel_rfl) (by kernel_rfl) (by kernel_rfl) (fun _ _ _ h => h) (Or.inl ⟨by rfl, ?yd14⟩) (by assumption) ?_
            case yd14 => (intro w hSw; (try dsimp only at hSw); go_simp; try with_reducible rfl)
            try simp only [Act.put, List.setIfInBounds_toArray, List.set_cons_zero, List.set_cons_succ]
            refine lay_take (i := 15) (v := ?vd15) rfl (by kernel_rfl) (by kernel_rfl) (by kernel_rfl) (fun _ _ _ h => h) (Or.inl ⟨by rfl, ?yd15⟩) (by assumption) ?_
            case yd15 => (intro w hSw; (try dsimp only at hSw); go_simp; try with_reducible rfl)
            try simp only [Act.put, List.setIfInBounds_toArray, List.set_cons_zero, List.set_cons_succ]
            refine lay_take (i := 16) (v := ?vd16) rfl (by kernel_rfl) (by kernel_rfl) (by kernel_rfl) (fun _ _ _ h => h) (Or.inl ⟨by rfl, ?yd16⟩) (by assumption) ?_
            case yd16 => (intro w hSw; (try dsimp only at hSw); go_simp; try with_reducible rfl)
            try simp only [Act.put, List.setIfInBounds_toArray, List.set_cons_zero, List.set_cons_succ]
            refine lay_take (i := 17) (v := ?vd17) rfl (by kernel_rfl) (by kernel_rfl) (by kernel_rfl) (fun _ _ _ h => h) (Or.inl ⟨by rfl, ?yd17⟩) (by assumption) ?_
            case yd17 => (intro w hSw; (try dsimp only at hSw); go_simp; try with_reducible rfl)
            try simp only [Act.put, List.setIfInBounds_toArray, List.set_cons_zero, List.set_cons_succ]
            refine lay_take (i := 18) (v := ?vd18) rfl (by kernel_rfl) (by kernel_rfl) (by kernel_rfl) (fun _ _ _ h => h) (Or.inl ⟨by rfl, ?yd18⟩) (by assumption) ?_
            case yd18 => (intro w hSw; (try dsimp only at hSw); go_simp; try with_reducible rfl)
            try simp only [Act.put, List.setIfInBounds_toArray, List.set_cons_zero, List.set_cons_succ]
            refine lay_take (i := 19) (v := ?vd19) rfl (by kernel_rfl) (by kernel_rfl) (by kernel_rfl) (fun _ _ _ h => h) (Or.inl ⟨by rfl, ?yd19⟩) (by assumption) ?_
            case yd19 => (intro w hSw; (try dsimp only at hSw); go_simp; try with_reducible rfl)
            try simp only [Act.put, List.setIfInBounds_toArray, List.set_cons_zero, List.set_cons_succ]
            refine lay_take (i := 20) (v := ?vd20) rfl (by kernel_rfl) (by kernel_rfl) (by kernel_rfl) (fun _ _ _ h => h) (Or.inl ⟨by rfl, ?yd20⟩) (by assumption) ?_
            case yd20 => (intro w hSw; (try dsimp only at hSw); go_simp; try with_reducible rfl)
            try simp only [Act.put, List.setIfInBounds_toArray, List.set_cons_zero, List.set_cons_succ]
            refine lay_take (i := 21) (v := undef) rfl (by kernel_rfl) (by kernel_rfl) (by kernel_rfl) (fun _ _ _ h => h) (Or.inr ⟨by rfl, rfl⟩) (by assumption) ?_
            try simp only [Act.put, List.setIfInBounds_toArray, List.set_cons_zero, List.set_cons_succ]
            refine lay_take (i := 22) (v := undef) rfl (by kernel_rfl) (by kernel_rfl) (by kernel_rfl) (fun _ _ _ h => h) (Or.inr ⟨by rfl, rfl⟩) (by assumption) ?_
            try simp only [Act.put, List.setIfInBounds_toArray, List.set_cons_zero, List.set_cons_succ]
            refine lay_take (i := 23) (v := ?vd23) rfl (by kernel_rfl) (by kernel_rfl) (by kernel_rfl) (fun _ _ _ h => h) (Or.inl ⟨by rfl, ?yd23⟩) (by assumption) ?_
            case yd23 => (intro w hSw; (try dsimp only at hSw); go_simp; try with_reducible rfl)
            try simp only [Act.put, List.setIfInBounds_toArray, List.set_cons_zero, List.set_cons_succ]
            refine lay_take (i := 24) (v := ?vd24) rfl (by kernel_rfl) (by kernel_rfl) (by kernel_rfl) (fun _ _ _ h => h) (Or.inl ⟨by rfl, ?yd24⟩) (by assumption) ?_
            case yd24 => (intro w hSw; (try dsimp only at hSw); go_simp; try with_reducible rfl)
            try simp only [Act.put, List.setIfInBounds_toArray, List.set_cons_zero, List.set_cons_succ]
            refine lay_take (i := 25) (v := ?vd25) rfl (by kernel_rfl) (by kernel_rfl) (by kernel_rfl) (fun _ _ _ h => h) (Or.inl ⟨by rfl, ?yd25⟩) (by assumption) ?_
            case yd25 => (intro w hSw; (try dsimp only at hSw); go_simp; try with_reducible rfl)
            try simp only [Act.put, List.setIfInBounds_toArray, List.set_cons_zero, List.set_cons_succ]
            refine lay_take (i := 26) (v := ?vd26) rfl (by kernel_rfl) (by kernel_rfl) (by kernel_rfl) (fun _ _ _ h => h) (Or.inl ⟨by rfl, ?yd26⟩) (by assumption) ?_
            case yd26 => (intro w hSw; (try dsimp only at hSw); go_simp; try with_reducible rfl)
            try simp only [Act.put, List.setIfInBounds_toArray, List.set_cons_zero, List.set_cons_succ]
            refine lay_take (i := 27) (v := ?vd27) rfl (by kernel_rfl) (by kernel_rfl) (by kernel_rfl) (fun _ _ _ h => h) (Or.inl ⟨by rfl, ?yd27⟩) (by assumption) ?_
            case yd27 => (intro w hSw; (try dsimp only at hSw); go_simp; try with_reducible rfl)
            try simp only [Act.put, List.setIfInBounds_toArray, List.set_cons_zero, List.set_cons_succ]
            refine lay_take (i := 28) (v := ?vd28) rfl (by kernel_rfl) (by kernel_rfl) (by kernel_rfl) (fun _ _ _ h => h) (Or.inl ⟨by rfl, ?yd28⟩) (by assumption) ?_
            case yd28 => (intro w hSw; (try dsimp only at hSw); go_simp; try with_reducible rfl)
            try simp only [Act.put, List.setIfInBounds_toArray, List.set_cons_zero, List.set_cons_succ]
            refine lay_take (i := 30) (v := ?vd30) rfl (by kernel_rfl) (by kernel_rfl) (by kernel_rfl) (fun _ _ _ h => h) (Or.inl ⟨by rfl, ?yd30⟩) (by assumption) ?_
            case yd30 => (intro w hSw; (try dsimp only at hSw); go_simp; try with_reducible rfl)
            try simp only [Act.put, List.setIfInBounds_toArray, List.set_cons_zero, List.set_cons_succ]
            refine wpAnyH_ready (rs := [29]) (by kernel_rfl) (by simp) ?_
            refine lay_cons rfl (fun KK hK => ?_) AllReadyH.nil
            go_simp
            refine (slot_tb HPSd.out.tb key1 HOK.out.1).mono ?_
            rintro e v20 ⟨rfl, b20⟩
            rw [HSL.out]
            refine hK.out _ _ ?_ (fun hHeld => ?_)
            · obtain ⟨hS0, hS1, hS2, hS3⟩ := hHeld
              exact ⟨cell_keep b20 hS0, cell_keep b20 hS1, cell_keep b20 hS2, cell_keep b20 hS3⟩
            clear hK KK
            try simp only [Act.put, List.setIfInBounds_toArray, List.set_cons_zero, List.set_cons_succ]
            refine lay_take (i := 31) (v := ?vd31) rfl (by kernel_rfl) (by kernel_rfl) (by kernel_rfl) (fun _ _ _ h => h) (Or.inl ⟨by rfl, ?yd31⟩) (by assumption) ?_
            case yd31 => (intro w hSw; (try dsimp only at hSw); go_simp; try with_reducible rfl)
            try simp only [Act.put, List.setIfInBounds_toArray, List.set_cons_zero, List.set_cons_succ]
            refine lay_take (i := 32) (v := ?vd32) rfl (by kernel_rfl) (by kernel_rfl) (by kernel_rfl) (fun _ _ _ h => h) (Or.inl ⟨by rfl, ?yd32⟩) (by assumption) ?_
            case yd32 => (intro w hSw; (try dsimp only at hSw); go_simp; try with_reducible rfl)
            try simp only [Act.put, List.setIfInBounds_toArray, List.set_cons_zero, List.set_cons_succ]
            refine lay_take (i := 33) (v := ?vd33) rfl (by kernel_rfl) (by kernel_rfl) (by kernel_rfl) (fun _ _ _ h => h) (Or.inl ⟨by rfl, ?yd33⟩) (by assumption) ?_
            case yd33 => (intro w hSw; (try dsimp only at hSw); go_simp; try with_reducible rfl)
            try simp only [Act.put, List.setIfInBounds_toArray, List.set_cons_zero, List.set_cons_succ]
            refine lay_take (i := 34) (v := ?vd34) rfl (by kernel_rfl) (by kernel_rfl) (by kernel_rfl) (fun _ _ _ h => h) (Or.inl ⟨by rfl, ?yd34⟩) (by assumption) ?_
            case yd34 => (intro w hSw; (try dsimp only at hSw); go_simp; try with_reducible rfl)
            try simp only [Act.put, List.setIfInBounds_toArray, List.set_cons_zero, List.set_cons_succ]
            refine lay_take (i := 36) (v := ?vd36) rfl (by kernel_rfl) (by kernel_rfl) (by kernel_rfl) (fun _ _ _ h => h) (Or.inl ⟨by rfl, ?yd36⟩) (by assumption) ?_
            case yd36 => (intro w hSw; (try dsimp only at hSw); go_simp; try with_reducible rfl)
            try simp only [Act.put, List.setIfInBounds_toArray, List.set_cons_zero, List.set_cons_succ]
            refine wpAnyH_ready (rs := [35]) (by kernel_rfl) (by simp) ?_
            refine lay_cons rfl (fun KK hK => ?_) AllReadyH.nil
            go_simp
            refine (len_below (HPSd.out.next b20).tb).mono ?_
            rintro e v15 ⟨rfl, b15⟩
            refine hK.out _ _ ?_ (fun hHeld => ?_)
            · obtain ⟨hS0, hS1, hS2, hS3⟩ := hHeld
              exact ⟨cell_keep b15 hS0, cell_keep b15 hS1, cell_keep b15 hS2, cell_keep b15 hS3⟩
            clear hK KK
            try simp only [Act.put, List.setIfInBounds_toArray, List.set_cons_zero, List.set_cons_succ]
            refine wpAnyH_ready (rs := [37]) (by kernel_rfl) (by simp) ?_
            refine lay_cons rfl (fun KK hK => ?_) AllReadyH.nil
            go_simp
            refine (rlen_m HPSd.out.tb.good.len ((HPSd.out.next b20).next b15).ref HPSd.out.tb.good (K : Int)).mono ?_
            rintro e v21 ⟨rfl, b21⟩
            refine hK.out _ _ ?_ (fun hHeld => ?_)
            · obtain ⟨hS0, hS1, hS2, hS3⟩ := hHeld
              exact ⟨cell_keep b21 hS0, cell_keep b21 hS1, cell_keep b21 hS2, cell_keep b21 hS3⟩
            clear hK KK
            try simp only [Act.put, List.setIfInBounds_toArray, List.set_cons_zero, List.set_cons_succ]
            refine lay_take (i := 38) (v := ?vd38) rfl (by kernel_rfl) (by kernel_rfl) (by kernel_rfl) (fun _ _ _ h => h) (Or.inl ⟨by rfl, ?yd38⟩) (by assumption) ?_
            case yd38 => (intro w hSw; (try dsimp only at hSw); go_simp; try with_reducible rfl)
            try simp only [Act.put, List.setIfInBounds_toArray, List.set_cons_zero, List.set_cons_succ]
            refine lay_take (i := 39) (v := ?vd39) rfl (by kernel_rfl) (by kernel_rfl) (by kernel_rfl) (fun _ _ _ h => h) (Or.inl ⟨by rfl, ?yd39⟩) (by assumption) ?_
            case yd39 => (intro w hSw; (try dsimp only at hSw); go_simp; try with_reducible rfl)
            try simp only [Act.put, List.setIfInBounds_toArray, List.set_cons_zero, List.set_cons_succ]
            refine wpAnyH_done (by kernel_rfl) ?_ _
            have HPS12 := Lib.hid (((HPSd.out.next b20).next b15).next b21)
            clear HPSd b20 b15 b21 HPS9 q2 x0 x1 r2
            go_wp2_with fail
            go_roundw
            case rel => exact ⟨k + 1, _, _, _, by omega, by go_num, HPS12⟩
            case measure => simp [intOf]; omega
          · have HGET := Lib.hid (getP_no HS8.out.tb.good hs)
            have HSL := Lib.hid (slot_neg HS8.out.tb.good hs)
            clear hs
            go_wp2_with fail
            refine (get_tb HS8.out.tb key1 HOK.out.1).mono ?_
            rintro e w8 ⟨rfl, hB⟩
            rw [HGET.out]
            have HPS8 := Lib.hid (HS8.out.next hB)
            have q2' := cell_keep hB q2
            clear hB HS8 q2
            obtain ⟨x0, x1, _, _⟩ := zero_two HPS8.out.box
            have hat := rat_any HPS8.out.ref HPS8.out.tb.good (K : Int) key1
            rw [HPS8.out.tb.good.len] at hat
            go_wp2_with fail
            refine (hat).mono ?_
            rintro e w9 ⟨rfl, hB⟩
            rw [HSL.out]
            have HPS9 := Lib.hid (HPS8.out.next hB)
            have q2 := cell_keep hB q2'
            clear hB HPS8 q2' x0 x1 hat
            obtain ⟨x0, x1, _, _⟩ := zero_two HPS9.out.box
            have HPSd := Lib.hid (HPS9.out.next ((Below.refl _ _).drew))
            go_wp2_with fail
            refine wp_region_held_drew (S := fun w' => w'.cell? ⟨bx, 0, none⟩ = some (.slice (some ⟨gr5, 0, none⟩) (slotsFor K) (slotsFor K)) ∧ w'.cell? ⟨bx, 1, none⟩ = some (.int .i64 K) ∧ w'.cell? ⟨wr.heap.size, 2, none⟩ = some (.string key1)) (by kernel_rfl) ?_ (fun hHeld => ?_)
            · exact ⟨drew_keep x0, drew_keep x1, drew_keep q2⟩
            refine lay_take (i := 0) (v := ?ve0) rfl (by kernel_rfl) (by kernel_rfl) (by kernel_rfl) (fun _ _ _ h => h) (Or.inl ⟨by rfl, ?ye0⟩) (by assumption) ?_
            case ye0 => (intro w hSw; (try dsimp only at hSw); go_simp; try with_reducible rfl)
            try simp only [Act.put, List.setIfInBounds_toArray, List.set_cons_zero, List.set_cons_succ]
            refine lay_take (i := 1) (v := ?ve1) rfl (by kernel_rfl) (by kernel_rfl) (by kernel_rfl) (fun _ _ _ h => h) (Or.inl ⟨by rfl, ?ye1⟩) (by assumption) ?_
            case ye1 => (intro w hSw; (try dsimp only at hSw); go_simp; try with_reducible rfl)
            try simp only [Act.put, List.setIfInBounds_toArray, List.set_cons_zero, List.set_cons_succ]
            refine lay_take (i := 2) (v := ?ve2) rfl (by kernel_rfl) (by kernel_rfl) (by kernel_rfl) (fun _ _ _ h => h) (Or.inl ⟨by rfl, ?ye2⟩) (by assumption) ?_
            case ye2 => (intro w hSw; (try dsimp only at hSw); go_simp; try with_reducible rfl)
            try simp only [Act.put, List.setIfInBounds_toArray, List.set_cons_zero, List.set_cons_succ]
            refine lay_take (i := 3) (v := ?ve3) rfl (by kernel_rfl) (by kernel_rfl) (by kernel_rfl) (fun _ _ _ h => h) (Or.inl ⟨by rfl, ?ye3⟩) (by assumption) ?_
            case ye3 => (intro w hSw; (try dsimp only at hSw); go_simp; try with_reducible rfl)
            try simp only [Act.put, List.setIfInBounds_toArray, List.set_cons_zero, List.set_cons_succ]
            refine lay_take (i := 4) (v := ?ve4) rfl (by kernel_rfl) (by kernel_rfl) (by kernel_rfl) (fun _ _ _ h => h) (Or.inl ⟨by rfl, ?ye4⟩) (by assumption) ?_
            case ye4 => (intro w hSw; (try dsimp only at hSw); go_simp; try with_reducible rfl)
            try simp only [Act.put, List.setIfInBounds_toArray, List.set_cons_zero, List.set_cons_succ]
            refine lay_take (i := 5) (v := ?ve5) rfl (by kernel_rfl) (by kernel_rfl) (by kernel_rfl) (fun _ _ _ h => h) (Or.inl ⟨by rfl, ?ye5⟩) (by assumption) ?_
            case ye5 => (intro w hSw; (try dsimp only at hSw); go_simp; try with_reducible rfl)
            try simp only [Act.put, List.setIfInBounds_toArray, List.set_cons_zero, List.set_cons_succ]
            refine lay_take (i := 6) (v := ?ve6) rfl (by kernel_rfl) (by kernel_rfl) (by kernel_rfl) (fun _ _ _ h => h) (Or.inl ⟨by rfl, ?ye6⟩) (by assumption) ?_
            case ye6 => (intro w hSw; (try dsimp only at hSw); go_simp; try with_reducible rfl)
            try simp only [Act.put, List.setIfInBounds_toArray, List.set_cons_zero, List.set_cons_succ]
            refine lay_take (i := 7) (v := undef) rfl (by kernel_rfl) (by kernel_rfl) (by kernel_rfl) (fun _ _ _ h => h) (Or.inr ⟨by rfl, rfl⟩) (by assumption) ?_
            try simp only [Act.put, List.setIfInBounds_toArray, List.set_cons_zero, List.set_cons_succ]
            refine lay_take (i := 8) (v := undef) rfl (by kernel_rfl) (by kernel_rfl) (by kernel_rfl) (fun _ _ _ h => h) (Or.inr ⟨by rfl, rfl⟩) (by assumption) ?_
            try simp only [Act.put, List.setIfInBounds_toArray, List.set_cons_zero, List.set_cons_succ]
            refine lay_take (i := 9) (v := undef) rfl (by kernel_rfl) (by kernel_rfl) (by kernel_rfl) (fun _ _ _ h => h) (Or.inr ⟨by rfl, rfl⟩) (by assumption) ?_
            try simp only [Act.put, List.setIfInBounds_toArray, List.set_cons_zero, List.set_cons_succ]
            refine lay_take (i := 10) (v := undef) rfl (by kernel_rfl) (by kernel_rfl) (by kernel_rfl) (fun _ _ _ h => h) (Or.inr ⟨by rfl, rfl⟩) (by assumption) ?_
            try simp only [Act.put, List.setIfInBounds_toArray, List.set_cons_zero, List.set_cons_succ]
            refine lay_take (i := 11) (v := undef) rfl (by kernel_rfl) (by kernel_rfl) (by kernel_rfl) (fun _ _ _ h => h) (Or.inr ⟨by rfl, rfl⟩) (by assumption) ?_
            try simp only [Act.put, List.setIfInBounds_toArray, List.set_cons_zero, List.set_cons_succ]
            refine lay_take (i := 12) (v := undef) rfl (by kernel_rfl) (by kernel_rfl) (by kernel_rfl) (fun _ _ _ h => h) (Or.inr ⟨by rfl, rfl⟩) (by assumption) ?_
            try simp only [Act.put, List.setIfInBounds_toArray, List.set_cons_zero, List.set_cons_succ]
            refine lay_take (i := 13) (v := undef) rfl (by kernel_rfl) (by kernel_rfl) (by kernel_rfl) (fun _ _ _ h => h) (Or.inr ⟨by rfl, rfl⟩) (by assumption) ?_
            try simp only [Act.put, List.setIfInBounds_toArray, List.set_cons_zero, List.set_cons_succ]
            refine lay_take (i := 14) (v := undef) rfl (by kernel_rfl) (by kernel_rfl) (by kernel_rfl) (fun _ _ _ h => h) (Or.inr ⟨by rfl, rfl⟩) (by assumption) ?_
            try simp only [Act.put, List.setIfInBounds_toArray, List.set_cons_zero, List.set_cons_succ]
            refine lay_take (i := 15) (v := ?ve15) rfl (by kernel_rfl) (by kernel_rfl) (by kernel_rfl) (fun _ _ _ h => h) (Or.inl ⟨by rfl, ?ye15⟩) (by assumption) ?_
            case ye15 => (intro w hSw; (try dsimp only at hSw); go_simp; try with_reducible rfl)
            try simp only [Act.put, List.setIfInBounds_toArray, List.set_cons_zero, List.set_cons_succ]
            refine lay_take (i := 16) (v := ?ve16) rfl (by kernel_rfl) (by kernel_rfl) (by kernel_rfl) (fun _ _ _ h => h) (Or.inl ⟨by rfl, ?ye16⟩) (by assumption) ?_
            case ye16 => (intro w hSw; (try dsimp only at hSw); go_simp; try with_reducible rfl)
            try simp only [Act.put, List.setIfInBounds_toArray, List.set_cons_zero, List.set_cons_succ]
            refine lay_take (i := 17) (v := ?ve17) rfl (by kernel_rfl) (by kernel_rfl) (by kernel_rfl) (fun _ _ _ h => h) (Or.inl ⟨by rfl, ?ye17⟩) (by assumption) ?_
            case ye17 => (intro w hSw; (try dsimp only at hSw); go_simp; try with_reducible rfl)
            try simp only [Act.put, List.setIfInBounds_toArray, List.set_cons_zero, List.set_cons_succ]
            refine lay_take (i := 18) (v := ?ve18) rfl (by kernel_rfl) (by kernel_rfl) (by kernel_rfl) (fun _ _ _ h => h) (Or.inl ⟨by rfl, ?ye18⟩) (by assumption) ?_
            case ye18 => (intro w hSw; (try dsimp only at hSw); go_simp; try with_reducible rfl)
            try simp only [Act.put, List.setIfInBounds_toArray, List.set_cons_zero, List.set_cons_succ]
            refine lay_take (i := 19) (v := ?ve19) rfl (by kernel_rfl) (by kernel_rfl) (by kernel_rfl) (fun _ _ _ h => h) (Or.inl ⟨by rfl, ?ye19⟩) (by assumption) ?_
            case ye19 => (intro w hSw; (try dsimp only at hSw); go_simp; try with_reducible rfl)
            try simp only [Act.put, List.setIfInBounds_toArray, List.set_cons_zero, List.set_cons_succ]
            refine lay_take (i := 20) (v := ?ve20) rfl (by kernel_rfl) (by kernel_rfl) (by kernel_rfl) (fun _ _ _ h => h) (Or.inl ⟨by rfl, ?ye20⟩) (by assumption) ?_
            case ye20 => (intro w hSw; (try dsimp only at hSw); go_simp; try with_reducible rfl)
            try simp only [Act.put, List.setIfInBounds_toArray, List.set_cons_zero, List.set_cons_succ]
            refine lay_take (i := 21) (v := ?ve21) rfl (by kernel_rfl) (by kernel_rfl) (by kernel_rfl) (fun _ _ _ h => h) (Or.inl ⟨by rfl, ?ye21⟩) (by assumption) ?_
            case ye21 => (intro w hSw; (try dsimp only at hSw); go_simp; try with_reducible rfl)
            try simp only [Act.put, List.setIfInBounds_toArray, List.set_cons_zero, List.set_cons_succ]
            refine lay_take (i := 22) (v := ?ve22) rfl (by kernel_rfl) (by kernel_rfl) (by kernel_rfl) (fun _ _ _ h => h) (Or.inl ⟨by rfl, ?ye22⟩) (by assumption) ?_
            case ye22 => (intro w hSw; (try dsimp only at hSw); go_simp; try with_reducible rfl)
            try simp only [Act.put, List.setIfInBounds_toArray, List.set_cons_zero, List.set_cons_succ]
            refine lay_take (i := 23) (v := ?ve23) rfl (by kernel_rfl) (by kernel_rfl) (by kernel_rfl) (fun _ _ _ h => h) (Or.inl ⟨by rfl, ?ye23⟩) (by assumption) ?_
            case ye23 => (intro w hSw; (try dsimp only at hSw); go_simp; try with_reducible rfl)
            try simp only [Act.put, List.setIfInBounds_toArray, List.set_cons_zero, List.set_cons_succ]
            refine lay_take (i := 24) (v := ?ve24) rfl (by kernel_rfl) (by kernel_rfl) (by kernel_rfl) (fun _ _ _ h => h) (Or.inl ⟨by rfl, ?ye24⟩) (by assumption) ?_
            case ye24 => (intro w hSw; (try dsimp only at hSw); go_simp; try with_reducible rfl)
            try simp only [Act.put, List.setIfInBounds_toArray, List.set_cons_zero, List.set_cons_succ]
            refine lay_take (i := 25) (v := ?ve25) rfl (by kernel_rfl) (by kernel_rfl) (by kernel_rfl) (fun _ _ _ h => h) (Or.inl ⟨by rfl, ?ye25⟩) (by assumption) ?_
            case ye25 => (intro w hSw; (try dsimp only at hSw); go_simp; try with_reducible rfl)
            try simp only [Act.put, List.setIfInBounds_toArray, List.set_cons_zero, List.set_cons_succ]
            refine lay_take (i := 26) (v := ?ve26) rfl (by kernel_rfl) (by kernel_rfl) (by kernel_rfl) (fun _ _ _ h => h) (Or.inl ⟨by rfl, ?ye26⟩) (by assumption) ?_
            case ye26 => (intro w hSw; (try dsimp only at hSw); go_simp; try with_reducible rfl)
            try simp only [Act.put, List.setIfInBounds_toArray, List.set_cons_zero, List.set_cons_succ]
            refine lay_take (i := 27) (v := ?ve27) rfl (by kernel_rfl) (by kernel_rfl) (by kernel_rfl) (fun _ _ _ h => h) (Or.inl ⟨by rfl, ?ye27⟩) (by assumption) ?_
            case ye27 => (intro w hSw; (try dsimp only at hSw); go_simp; try with_reducible rfl)
            try simp only [Act.put, List.setIfInBounds_toArray, List.set_cons_zero, List.set_cons_succ]
            refine lay_take (i := 28) (v := ?ve28) rfl (by kernel_rfl) (by kernel_rfl) (by kernel_rfl) (fun _ _ _ h => h) (Or.inl ⟨by rfl, ?ye28⟩) (by assumption) ?_
            case ye28 => (intro w hSw; (try dsimp only at hSw); go_simp; try with_reducible rfl)
            try simp only [Act.put, List.setIfInBounds_toArray, List.set_cons_zero, List.set_cons_succ]
            refine lay_take (i := 30) (v := ?ve30) rfl (by kernel_rfl) (by kernel_rfl) (by kernel_rfl) (fun _ _ _ h => h) (Or.inl ⟨by rfl, ?ye30⟩) (by assumption) ?_
            case ye30 => (intro w hSw; (try dsimp only at hSw); go_simp; try with_reducible rfl)
            try simp only [Act.put, List.setIfInBounds_toArray, List.set_cons_zero, List.set_cons_succ]
            refine wpAnyH_ready (rs := [29]) (by kernel_rfl) (by simp) ?_
            refine lay_cons rfl (fun KK hK => ?_) AllReadyH.nil
            go_simp
            refine (slot_tb HPSd.out.tb key1 HOK.out.1).mono ?_
            rintro e v20 ⟨rfl, b20⟩
            rw [HSL.out]
            refine hK.out _ _ ?_ (fun hHeld => ?_)
            · obtain ⟨hS0, hS1, hS2⟩ := hHeld
              exact ⟨cell_keep b20 hS0, cell_keep b20 hS1, cell_keep b20 hS2⟩
            clear hK KK
            try simp only [Act.put, List.setIfInBounds_toArray, List.set_cons_zero, List.set_cons_succ]
            refine lay_take (i := 31) (v := ?ve31) rfl (by kernel_rfl) (by kernel_rfl) (by kernel_rfl) (fun _ _ _ h => h) (Or.inl ⟨by rfl, ?ye31⟩) (by assumption) ?_
            case ye31 => (intro w hSw; (try dsimp only at hSw); go_simp; try with_reducible rfl)
            try simp only [Act.put, List.setIfInBounds_toArray, List.set_cons_zero, List.set_cons_succ]
            refine lay_take (i := 32) (v := ?ve32) rfl (by kernel_rfl) (by kernel_rfl) (by kernel_rfl) (fun _ _ _ h => h) (Or.inl ⟨by rfl, ?ye32⟩) (by assumption) ?_
            case ye32 => (intro w hSw; (try dsimp only at hSw); go_simp; try with_reducible rfl)
            try simp only [Act.put, List.setIfInBounds_toArray, List.set_cons_zero, List.set_cons_succ]
            refine lay_take (i := 33) (v := ?ve33) rfl (by kernel_rfl) (by kernel_rfl) (by kernel_rfl) (fun _ _ _ h => h) (Or.inl ⟨by rfl, ?ye33⟩) (by assumption) ?_
            case ye33 => (intro w hSw; (try dsimp only at hSw); go_simp; try with_reducible rfl)
            try simp only [Act.put, List.setIfInBounds_toArray, List.set_cons_zero, List.set_cons_succ]
            refine lay_take (i := 34) (v := ?ve34) rfl (by kernel_rfl) (by kernel_rfl) (by kernel_rfl) (fun _ _ _ h => h) (Or.inl ⟨by rfl, ?ye34⟩) (by assumption) ?_
            case ye34 => (intro w hSw; (try dsimp only at hSw); go_simp; try with_reducible rfl)
            try simp only [Act.put, List.setIfInBounds_toArray, List.set_cons_zero, List.set_cons_succ]
            refine lay_take (i := 36) (v := ?ve36) rfl (by kernel_rfl) (by kernel_rfl) (by kernel_rfl) (fun _ _ _ h => h) (Or.inl ⟨by rfl, ?ye36⟩) (by assumption) ?_
            case ye36 => (intro w hSw; (try dsimp only at hSw); go_simp; try with_reducible rfl)
            try simp only [Act.put, List.setIfInBounds_toArray, List.set_cons_zero, List.set_cons_succ]
            refine wpAnyH_ready (rs := [35]) (by kernel_rfl) (by simp) ?_
            refine lay_cons rfl (fun KK hK => ?_) AllReadyH.nil
            go_simp
            refine (len_below (HPSd.out.next b20).tb).mono ?_
            rintro e v15 ⟨rfl, b15⟩
            refine hK.out _ _ ?_ (fun hHeld => ?_)
            · obtain ⟨hS0, hS1, hS2⟩ := hHeld
              exact ⟨cell_keep b15 hS0, cell_keep b15 hS1, cell_keep b15 hS2⟩
            clear hK KK
            try simp only [Act.put, List.setIfInBounds_toArray, List.set_cons_zero, List.set_cons_succ]
            refine wpAnyH_ready (rs := [37]) (by kernel_rfl) (by simp) ?_
            refine lay_cons rfl (fun KK hK => ?_) AllReadyH.nil
            go_simp
            refine (rlen_m HPSd.out.tb.good.len ((HPSd.out.next b20).next b15).ref HPSd.out.tb.good (K : Int)).mono ?_
            rintro e v21 ⟨rfl, b21⟩
            refine hK.out _ _ ?_ (fun hHeld => ?_)
            · obtain ⟨hS0, hS1, hS2⟩ := hHeld
              exact ⟨cell_keep b21 hS0, cell_keep b21 hS1, cell_keep b21 hS2⟩
            clear hK KK
            try simp only [Act.put, List.setIfInBounds_toArray, List.set_cons_zero, List.set_cons_succ]
            refine lay_take (i := 38) (v := ?ve38) rfl (by kernel_rfl) (by kernel_rfl) (by kernel_rfl) (fun _ _ _ h => h) (Or.inl ⟨by rfl, ?ye38⟩) (by assumption) ?_
            case ye38 => (intro w hSw; (try dsimp only at hSw); go_simp; try with_reducible rfl)
            try simp only [Act.put, List.setIfInBounds_toArray, List.set_cons_zero, List.set_cons_succ]
            refine lay_take (i := 39) (v := ?ve39) rfl (by kernel_rfl) (by kernel_rfl) (by kernel_rfl) (fun _ _ _ h => h) (Or.inl ⟨by rfl, ?ye39⟩) (by assumption) ?_
            case ye39 => (intro w hSw; (try dsimp only at hSw); go_simp; try with_reducible rfl)
            try simp only [Act.put, List.setIfInBounds_toArray, List.set_cons_zero, List.set_cons_succ]
            refine wpAnyH_done (by kernel_rfl) ?_ _
            have HPS12 := Lib.hid (((HPSd.out.next b20).next b15).next b21)
            clear HPSd b20 b15 b21 HPS9 q2 x0 x1
            go_wp2_with fail
            go_roundw
            case rel => exact ⟨k + 1, _, _, _, by omega, by go_num, HPS12⟩
            case measure => simp [intOf]; omega
        · have h1z : (kind == 1) = false := beq_eq_false_iff_ne.2 h1
          obtain ⟨L1, hL1⟩ : ∃ L1, L1 = L := ⟨_, rfl⟩
          rw [← hL1] at HS6
          clear hL1 x0 x1 x2 x3
          by_cases hs : key1 ∈ keysP L1
          · obtain ⟨p, hp, hpu, hpk⟩ := mem_keysP.1 hs
            have hsl := (slot_here HS6.out.tb.good hs).1
            have hhit := HS6.out.tb.good.hit hp hpu
            have hget := getP_yes HS6.out.tb.good (ix_mem hp) hpu
            rw [hpk] at hhit hget
            rw [hhit] at hsl
            have HSL := Lib.hid hsl
            have HGET := Lib.hid hget
            have HIX := Lib.hid (ix_get hp)
            have hpm : p < slotsFor K := by rw [← HS6.out.tb.good.len]; exact hp
            have hp0 : (0 : Int) ≤ (p : Int) := by omega
            have hp1 : (p : Int) < (slotsFor K : Int) := by omega
            clear hs hp hpu hpk hsl hhit hget
            go_wp2_with fail
            refine (get_tb HS6.out.tb key1 HOK.out.1).mono ?_
            rintro e w8 ⟨rfl, hB⟩
            rw [HGET.out]
            have HPS8 := Lib.hid (HS6.out.next hB)
            have q2' := cell_keep hB q2
            clear hB HS6 q2
            obtain ⟨x0, x1, _, _⟩ := zero_two HPS8.out.box
            have hat := rat_any HPS8.out.ref HPS8.out.tb.good (K : Int) key1
            rw [HPS8.out.tb.good.len] at hat
            go_wp2_with fail
            refine (hat).mono ?_
            rintro e w9 ⟨rfl, hB⟩
            rw [HSL.out]
            have HPS9 := Lib.hid (HPS8.out.next hB)
            have q2 := cell_keep hB q2'
            clear hB HPS8 q2' x0 x1 hat
            obtain ⟨x0, x1, _, _⟩ := zero_two HPS9.out.box
            obtain ⟨-, -, r2⟩ := HPS9.out.ref.at HIX.out
            have HPSd := Lib.hid (HPS9.out.next ((Below.refl _ _).drew))
            go_wp2_with fail
            refine wp_region_held_drew (S := fun w' => w'.cell? ⟨bx, 0, none⟩ = some (.slice (some ⟨gr, 0, none⟩) (slotsFor K) (slotsFor K)) ∧ w'.cell? ⟨bx, 1, none⟩ = some (.int .i64 K) ∧ w'.cell? ⟨wr.heap.size, 2, none⟩ = some (.string key1) ∧ w'.cell? ⟨gr, p * 3 + 2, none⟩ = some (.int .i64 (ix L1 p).v)) (by kernel_rfl) ?_ (fun hHeld => ?_)
            · exact ⟨drew_keep x0, drew_keep x1, drew_keep q2, drew_keep r2⟩
            refine lay_take (i := 0) (v := ?vf0) rfl (by kernel_rfl) (by kernel_rfl) (by kernel_rfl) (fun _ _ _ h => h) (Or.inl ⟨by rfl, ?yf0⟩) (by assumption) ?_
            case yf0 => (intro w hSw; (try dsimp only at hSw); go_simp; try with_reducible rfl)
            try simp only [Act.put, List.setIfInBounds_toArray, List.set_cons_zero, List.set_cons_succ]
            refine lay_take (i := 1) (v := ?vf1) rfl (by kernel_rfl) (by kernel_rfl) (by kernel_rfl) (fun _ _ _ h => h) (Or.inl ⟨by rfl, ?yf1⟩) (by assumption) ?_
            case yf1 => (intro w hSw; (try dsimp only at hSw); go_simp; try with_reducible rfl)
            try simp only [Act.put, List.setIfInBounds_toArray, List.set_cons_zero, List.set_cons_succ]
            refine lay_take (i := 2) (v := ?vf2) rfl (by kernel_rfl) (by kernel_rfl) (by kernel_rfl) (fun _ _ _ h => h) (Or.inl ⟨by rfl, ?yf2⟩) (by assumption) ?_
            case yf2 => (intro w hSw; (try dsimp only at hSw); go_simp; try with_reducible rfl)
            try simp only [Act.put, List.setIfInBounds_toArray, List.set_cons_zero, List.set_cons_succ]
            refine lay_take (i := 3) (v := ?vf3) rfl (by kernel_rfl) (by kernel_rfl) (by kernel_rfl) (fun _ _ _ h => h) (Or.inl ⟨by rfl, ?yf3⟩) (by assumption) ?_
            case yf3 => (intro w hSw; (try dsimp only at hSw); go_simp; try with_reducible rfl)
            try simp only [Act.put, List.setIfInBounds_toArray, List.set_cons_zero, List.set_cons_succ]
            refine lay_take (i := 4) (v := ?vf4) rfl (by kernel_rfl) (by kernel_rfl) (by kernel_rfl) (fun _ _ _ h => h) (Or.inl ⟨by rfl, ?yf4⟩) (by assumption) ?_
            case yf4 => (intro w hSw; (try dsimp only at hSw); go_simp; try with_reducible rfl)
            try simp only [Act.put, List.setIfInBounds_toArray, List.set_cons_zero, List.set_cons_succ]
            refine lay_take (i := 5) (v := ?vf5) rfl (by kernel_rfl) (by kernel_rfl) (by kernel_rfl) (fun _ _ _ h => h) (Or.inl ⟨by rfl, ?yf5⟩) (by assumption) ?_
            case yf5 => (intro w hSw; (try dsimp only at hSw); go_simp; try with_reducible rfl)
            try simp only [Act.put, List.setIfInBounds_toArray, List.set_cons_zero, List.set_cons_succ]
            refine lay_take (i := 6) (v := ?vf6) rfl (by kernel_rfl) (by kernel_rfl) (by kernel_rfl) (fun _ _ _ h => h) (Or.inl ⟨by rfl, ?yf6⟩) (by assumption) ?_
            case yf6 => (intro w hSw; (try dsimp only at hSw); go_simp; try with_reducible rfl)
            try simp only [Act.put, List.setIfInBounds_toArray, List.set_cons_zero, List.set_cons_succ]
            refine lay_take (i := 7) (v := ?vf7) rfl (by kernel_rfl) (by kernel_rfl) (by kernel_rfl) (fun _ _ _ h => h) (Or.inl ⟨by rfl, ?yf7⟩) (by assumption) ?_
            case yf7 => (intro w hSw; (try dsimp only at hSw); go_simp; try with_reducible rfl)
            try simp only [Act.put, List.setIfInBounds_toArray, List.set_cons_zero, List.set_cons_succ]
            refine lay_take (i := 8) (v := ?vf8) rfl (by kernel_rfl) (by kernel_rfl) (by kernel_rfl) (fun _ _ _ h => h) (Or.inl ⟨by rfl, ?yf8⟩) (by assumption) ?_
            case yf8 => (intro w hSw; (try dsimp only at hSw); go_simp; try with_reducible rfl)
            try simp only [Act.put, List.setIfInBounds_toArray, List.set_cons_zero, List.set_cons_succ]
            refine lay_take (i := 9) (v := ?vf9) rfl (by kernel_rfl) (by kernel_rfl) (by kernel_rfl) (fun _ _ _ h => h) (Or.inl ⟨by rfl, ?yf9⟩) (by assumption) ?_
            case yf9 => (intro w hSw; (try dsimp only at hSw); go_simp; try with_reducible rfl)
            try simp only [Act.put, List.setIfInBounds_toArray, List.set_cons_zero, List.set_cons_succ]
            refine lay_take (i := 10) (v := ?vf10) rfl (by kernel_rfl) (by kernel_rfl) (by kernel_rfl) (fun _ _ _ h => h) (Or.inl ⟨by rfl, ?yf10⟩) (by assumption) ?_
            case yf10 => (intro w hSw; (try dsimp only at hSw); go_simp; try with_reducible rfl)
            try simp only [Act.put, List.setIfInBounds_toArray, List.set_cons_zero, List.set_cons_succ]
            refine lay_take (i := 11) (v := ?vf11) rfl (by kernel_rfl) (by kernel_rfl) (by kernel_rfl) (fun _ _ _ h => h) (Or.inl ⟨by rfl, ?yf11⟩) (by assumption) ?_
            case yf11 => (intro w hSw; (try dsimp only at hSw); go_simp; try with_reducible rfl)
            try simp only [Act.put, List.setIfInBounds_toArray, List.set_cons_zero, List.set_cons_succ]
            refine lay_take (i := 12) (v := ?vf12) rfl (by kernel_rfl) (by kernel_rfl) (by kernel_rfl) (fun _ _ _ h => h) (Or.inl ⟨by rfl, ?yf12⟩) (by assumption) ?_
            case yf12 => (intro w hSw; (try dsimp only at hSw); go_simp; try with_reducible rfl)
            try simp only [Act.put, List.setIfInBounds_toArray, List.set_cons_zero, List.set_cons_succ]
            refine lay_take (i := 13) (v := ?vf13) rfl (by kernel_rfl) (by kernel_rfl) (by kernel_rfl) (fun _ _ _ h => h) (Or.inl ⟨by rfl, ?yf13⟩) (by assumption) ?_
            case yf13 => (intro w hSw; (try dsimp only at hSw); go_simp; try with_reducible rfl)
            try simp only [Act.put, List.setIfInBounds_toArray, List.set_cons_zero, List.set_cons_succ]
            refine lay_take (i := 14) (v := ?vf14) rfl (by kernel_rfl) (by kernel_rfl) (by kernel_rfl) (fun _ _ _ h => h) (Or.inl ⟨by rfl, ?yf14⟩) (by assumption) ?_
            case yf14 => (intro w hSw; (try dsimp only at hSw); go_simp; try with_reducible rfl)
            try simp only [Act.put, List.setIfInBounds_toArray, List.set_cons_zero, List.set_cons_succ]
            refine lay_take (i := 15) (v := ?vf15) rfl (by kernel_rfl) (by kernel_rfl) (by kernel_rfl) (fun _ _ _ h => h) (Or.inl ⟨by rfl, ?yf15⟩) (by assumption) ?_
            case yf15 => (intro w hSw; (try dsimp only at hSw); go_simp; try with_reducible rfl)
            try simp only [Act.put, List.setIfInBounds_toArray, List.set_cons_zero, List.set_cons_succ]
            refine lay_take (i := 16) (v := ?vf16) rfl (by kernel_rfl) (by kernel_rfl) (by kernel_rfl) (fun _ _ _ h => h) (Or.inl ⟨by rfl, ?yf16⟩) (by assumption) ?_
            case yf16 => (intro w hSw; (try dsimp only at hSw); go_simp; try with_reducible rfl)
            try simp only [Act.put, List.setIfInBounds_toArray, List.set_cons_zero, List.set_cons_succ]
            refine lay_take (i := 17) (v := ?vf17) rfl (by kernel_rfl) (by kernel_rfl) (by kernel_rfl) (fun _ _ _ h => h) (Or.inl ⟨by rfl, ?yf17⟩) (by assumption) ?_
            case yf17 => (intro w hSw; (try dsimp only at hSw); go_simp; try with_reducible rfl)
            try simp only [Act.put, List.setIfInBounds_toArray, List.set_cons_zero, List.set_cons_succ]
            refine lay_take (i := 18) (v := ?vf18) rfl (by kernel_rfl) (by kernel_rfl) (by kernel_rfl) (fun _ _ _ h => h) (Or.inl ⟨by rfl, ?yf18⟩) (by assumption) ?_
            case yf18 => (intro w hSw; (try dsimp only at hSw); go_simp; try with_reducible rfl)
            try simp only [Act.put, List.setIfInBounds_toArray, List.set_cons_zero, List.set_cons_succ]
            refine lay_take (i := 19) (v := ?vf19) rfl (by kernel_rfl) (by kernel_rfl) (by kernel_rfl) (fun _ _ _ h => h) (Or.inl ⟨by rfl, ?yf19⟩) (by assumption) ?_
            case yf19 => (intro w hSw; (try dsimp only at hSw); go_simp; try with_reducible rfl)
            try simp only [Act.put, List.setIfInBounds_toArray, List.set_cons_zero, List.set_cons_succ]
            refine lay_take (i := 20) (v := ?vf20) rfl (by kernel_rfl) (by kernel_rfl) (by kernel_rfl) (fun _ _ _ h => h) (Or.inl ⟨by rfl, ?yf20⟩) (by assumption) ?_
            case yf20 => (intro w hSw; (try dsimp only at hSw); go_simp; try with_reducible rfl)
            try simp only [Act.put, List.setIfInBounds_toArray, List.set_cons_zero, List.set_cons_succ]
            refine lay_take (i := 21) (v := undef) rfl (by kernel_rfl) (by kernel_rfl) (by kernel_rfl) (fun _ _ _ h => h) (Or.inr ⟨by rfl, rfl⟩) (by assumption) ?_
            try simp only [Act.put, List.setIfInBounds_toArray, List.set_cons_zero, List.set_cons_succ]
            refine lay_take (i := 22) (v := undef) rfl (by kernel_rfl) (by kernel_rfl) (by kernel_rfl) (fun _ _ _ h => h) (Or.inr ⟨by rfl, rfl⟩) (by assumption) ?_
            try simp only [Act.put, List.setIfInBounds_toArray, List.set_cons_zero, List.set_cons_succ]
            refine lay_take (i := 23) (v := ?vf23) rfl (by kernel_rfl) (by kernel_rfl) (by kernel_rfl) (fun _ _ _ h => h) (Or.inl ⟨by rfl, ?yf23⟩) (by assumption) ?_
            case yf23 => (intro w hSw; (try dsimp only at hSw); go_simp; try with_reducible rfl)
            try simp only [Act.put, List.setIfInBounds_toArray, List.set_cons_zero, List.set_cons_succ]
            refine lay_take (i := 24) (v := ?vf24) rfl (by kernel_rfl) (by kernel_rfl) (by kernel_rfl) (fun _ _ _ h => h) (Or.inl ⟨by rfl, ?yf24⟩) (by assumption) ?_
            case yf24 => (intro w hSw; (try dsimp only at hSw); go_simp; try with_reducible rfl)
            try simp only [Act.put, List.setIfInBounds_toArray, List.set_cons_zero, List.set_cons_succ]
            refine lay_take (i := 25) (v := ?vf25) rfl (by kernel_rfl) (by kernel_rfl) (by kernel_rfl) (fun _ _ _ h => h) (Or.inl ⟨by rfl, ?yf25⟩) (by assumption) ?_
            case yf25 => (intro w hSw; (try dsimp only at hSw); go_simp; try with_reducible rfl)
            try simp only [Act.put, List.setIfInBounds_toArray, List.set_cons_zero, List.set_cons_succ]
            refine lay_take (i := 26) (v := ?vf26) rfl (by kernel_rfl) (by kernel_rfl) (by kernel_rfl) (fun _ _ _ h => h) (Or.inl ⟨by rfl, ?yf26⟩) (by assumption) ?_
            case yf26 => (intro w hSw; (try dsimp only at hSw); go_simp; try with_reducible rfl)
            try simp only [Act.put, List.setIfInBounds_toArray, List.set_cons_zero, List.set_cons_succ]
            refine lay_take (i := 27) (v := ?vf27) rfl (by kernel_rfl) (by kernel_rfl) (by kernel_rfl) (fun _ _ _ h => h) (Or.inl ⟨by rfl, ?yf27⟩) (by assumption) ?_
            case yf27 => (intro w hSw; (try dsimp only at hSw); go_simp; try with_reducible rfl)
            try simp only [Act.put, List.setIfInBounds_toArray, List.set_cons_zero, List.set_cons_succ]
            refine lay_take (i := 28) (v := ?vf28) rfl (by kernel_rfl) (by kernel_rfl) (by kernel_rfl) (fun _ _ _ h => h) (Or.inl ⟨by rfl, ?yf28⟩) (by assumption) ?_
            case yf28 => (intro w hSw; (try dsimp only at hSw); go_simp; try with_reducible rfl)
            try simp only [Act.put, List.setIfInBounds_toArray, List.set_cons_zero, List.set_cons_succ]
            refine lay_take (i := 30) (v := ?vf30) rfl (by kernel_rfl) (by kernel_rfl) (by kernel_rfl) (fun _ _ _ h => h) (Or.inl ⟨by rfl, ?yf30⟩) (by assumption) ?_
            case yf30 => (intro w hSw; (try dsimp only at hSw); go_simp; try with_reducible rfl)
            try simp only [Act.put, List.setIfInBounds_toArray, List.set_cons_zero, List.set_cons_succ]
            refine wpAnyH_ready (rs := [29]) (by kernel_rfl) (by simp) ?_
            refine lay_cons rfl (fun KK hK => ?_) AllReadyH.nil
            go_simp
            refine (slot_tb HPSd.out.tb key1 HOK.out.1).mono ?_
            rintro e v20 ⟨rfl, b20⟩
            rw [HSL.out]
            refine hK.out _ _ ?_ (fun hHeld => ?_)
            · obtain ⟨hS0, hS1, hS2, hS3⟩ := hHeld
              exact ⟨cell_keep b20 hS0, cell_keep b20 hS1, cell_keep b20 hS2, cell_keep b20 hS3⟩
            clear hK KK
            try simp only [Act.put, List.setIfInBounds_toArray, List.set_cons_zero, List.set_cons_succ]
            refine lay_take (i := 31) (v := ?vf31) rfl (by kernel_rfl) (by kernel_rfl) (by kernel_rfl) (fun _ _ _ h => h) (Or.inl ⟨by rfl, ?yf31⟩) (by assumption) ?_
            case yf31 => (intro w hSw; (try dsimp only at hSw); go_simp; try with_reducible rfl)
            try simp only [Act.put, List.setIfInBounds_toArray, List.set_cons_zero, List.set_cons_succ]
            refine lay_take (i := 32) (v := ?vf32) rfl (by kernel_rfl) (by kernel_rfl) (by kernel_rfl) (fun _ _ _ h => h) (Or.inl ⟨by rfl, ?yf32⟩) (by assumption) ?_
            case yf32 => (intro w hSw; (try dsimp only at hSw); go_simp; try with_reducible rfl)
            try simp only [Act.put, List.setIfInBounds_toArray, List.set_cons_zero, List.set_cons_succ]
            refine lay_take (i := 33) (v := ?vf33) rfl (by kernel_rfl) (by kernel_rfl) (by kernel_rfl) (fun _ _ _ h => h) (Or.inl ⟨by rfl, ?yf33⟩) (by assumption) ?_
            case yf33 => (intro w hSw; (try dsimp only at hSw); go_simp; try with_reducible rfl)
            try simp only [Act.put, List.setIfInBounds_toArray, List.set_cons_zero, List.set_cons_succ]
            refine lay_take (i := 34) (v := ?vf34) rfl (by kernel_rfl) (by kernel_rfl) (by kernel_rfl) (fun _ _ _ h => h) (Or.inl ⟨by rfl, ?yf34⟩) (by assumption) ?_
            case yf34 => (intro w hSw; (try dsimp only at hSw); go_simp; try with_reducible rfl)
            try simp only [Act.put, List.setIfInBounds_toArray, List.set_cons_zero, List.set_cons_succ]
            refine lay_take (i := 36) (v := ?vf36) rfl (by kernel_rfl) (by kernel_rfl) (by kernel_rfl) (fun _ _ _ h => h) (Or.inl ⟨by rfl, ?yf36⟩) (by assumption) ?_
            case yf36 => (intro w hSw; (try dsimp only at hSw); go_simp; try with_reducible rfl)
            try simp only [Act.put, List.setIfInBounds_toArray, List.set_cons_zero, List.set_cons_succ]
            refine wpAnyH_ready (rs := [35]) (by kernel_rfl) (by simp) ?_
            refine lay_cons rfl (fun KK hK => ?_) AllReadyH.nil
            go_simp
            refine (len_below (HPSd.out.next b20).tb).mono ?_
            rintro e v15 ⟨rfl, b15⟩
            refine hK.out _ _ ?_ (fun hHeld => ?_)
            · obtain ⟨hS0, hS1, hS2, hS3⟩ := hHeld
              exact ⟨cell_keep b15 hS0, cell_keep b15 hS1, cell_keep b15 hS2, cell_keep b15 hS3⟩
            clear hK KK
            try simp only [Act.put, List.setIfInBounds_toArray, List.set_cons_zero, List.set_cons_succ]
            refine wpAnyH_ready (rs := [37]) (by kernel_rfl) (by simp) ?_
            refine lay_cons rfl (fun KK hK => ?_) AllReadyH.nil
            go_simp
            refine (rlen_m HPSd.out.tb.good.len ((HPSd.out.next b20).next b15).ref HPSd.out.tb.good (K : Int)).mono ?_
            rintro e v21 ⟨rfl, b21⟩
            refine hK.out _ _ ?_ (fun hHeld => ?_)
            · obtain ⟨hS0, hS1, hS2, hS3⟩ := hHeld
              exact ⟨cell_keep b21 hS0, cell_keep b21 hS1, cell_keep b21 hS2, cell_keep b21 hS3⟩
            clear hK KK
            try simp only [Act.put, List.setIfInBounds_toArray, List.set_cons_zero, List.set_cons_succ]
            refine lay_take (i := 38) (v := ?vf38) rfl (by kernel_rfl) (by kernel_rfl) (by kernel_rfl) (fun _ _ _ h => h) (Or.inl ⟨by rfl, ?yf38⟩) (by assumption) ?_
            case yf38 => (intro w hSw; (try dsimp only at hSw); go_simp; try with_reducible rfl)
            try simp only [Act.put, List.setIfInBounds_toArray, List.set_cons_zero, List.set_cons_succ]
            refine lay_take (i := 39) (v := ?vf39) rfl (by kernel_rfl) (by kernel_rfl) (by kernel_rfl) (fun _ _ _ h => h) (Or.inl ⟨by rfl, ?yf39⟩) (by assumption) ?_
            case yf39 => (intro w hSw; (try dsimp only at hSw); go_simp; try with_reducible rfl)
            try simp only [Act.put, List.setIfInBounds_toArray, List.set_cons_zero, List.set_cons_succ]
            refine wpAnyH_done (by kernel_rfl) ?_ _
            have HPS12 := Lib.hid (((HPSd.out.next b20).next b15).next b21)
            clear HPSd b20 b15 b21 HPS9 q2 x0 x1 r2
            go_wp2_with fail
            go_roundw
            case rel => exact ⟨k + 1, _, _, _, by omega, by go_num, HPS12⟩
            case measure => simp [intOf]; omega
          · have HGET := Lib.hid (getP_no HS6.out.tb.good hs)
            have HSL := Lib.hid (slot_neg HS6.out.tb.good hs)
            clear hs
            go_wp2_with fail
            refine (get_tb HS6.out.tb key1 HOK.out.1).mono ?_
            rintro e w8 ⟨rfl, hB⟩
            rw [HGET.out]
            have HPS8 := Lib.hid (HS6.out.next hB)
            have q2' := cell_keep hB q2
            clear hB HS6 q2
            obtain ⟨x0, x1, _, _⟩ := zero_two HPS8.out.box
            have hat := rat_any HPS8.out.ref HPS8.out.tb.good (K : Int) key1
            rw [HPS8.out.tb.good.len] at hat
            go_wp2_with fail
            refine (hat).mono ?_
            rintro e w9 ⟨rfl, hB⟩
            rw [HSL.out]
            have HPS9 := Lib.hid (HPS8.out.next hB)
            have q2 := cell_keep hB q2'
            clear hB HPS8 q2' x0 x1 hat
            obtain ⟨x0, x1, _, _⟩ := zero_two HPS9.out.box
            have HPSd := Lib.hid (HPS9.out.next ((Below.refl _ _).drew))
            go_wp2_with fail
            refine wp_region_held_drew (S := fun w' => w'.cell? ⟨bx, 0, none⟩ = some (.slice (some ⟨gr, 0, none⟩) (slotsFor K) (slotsFor K)) ∧ w'.cell? ⟨bx, 1, none⟩ = some (.int .i64 K) ∧ w'.cell? ⟨wr.heap.size, 2, none⟩ = some (.string key1)) (by kernel_rfl) ?_ (fun hHeld => ?_)
            · exact ⟨drew_keep x0, drew_keep x1, drew_keep q2⟩
            refine lay_take (i := 0) (v := ?vg0) rfl (by kernel_rfl) (by kernel_rfl) (by kernel_rfl) (fun _ _ _ h => h) (Or.inl ⟨by rfl, ?yg0⟩) (by assumption) ?_
            case yg0 => (intro w hSw; (try dsimp only at hSw); go_simp; try with_reducible rfl)
            try simp only [Act.put, List.setIfInBounds_toArray, List.set_cons_zero, List.set_cons_succ]
            refine lay_take (i := 1) (v := ?vg1) rfl (by kernel_rfl) (by kernel_rfl) (by kernel_rfl) (fun _ _ _ h => h) (Or.inl ⟨by rfl, ?yg1⟩) (by assumption) ?_
            case yg1 => (intro w hSw; (try dsimp only at hSw); go_simp; try with_reducible rfl)
            try simp only [Act.put, List.setIfInBounds_toArray, List.set_cons_zero, List.set_cons_succ]
            refine lay_take (i := 2) (v := ?vg2) rfl (by kernel_rfl) (by kernel_rfl) (by kernel_rfl) (fun _ _ _ h => h) (Or.inl ⟨by rfl, ?yg2⟩) (by assumption) ?_
            case yg2 => (intro w hSw; (try dsimp only at hSw); go_simp; try with_reducible rfl)
            try simp only [Act.put, List.setIfInBounds_toArray, List.set_cons_zero, List.set_cons_succ]
            refine lay_take (i := 3) (v := ?vg3) rfl (by kernel_rfl) (by kernel_rfl) (by kernel_rfl) (fun _ _ _ h => h) (Or.inl ⟨by rfl, ?yg3⟩) (by assumption) ?_
            case yg3 => (intro w hSw; (try dsimp only at hSw); go_simp; try with_reducible rfl)
            try simp only [Act.put, List.setIfInBounds_toArray, List.set_cons_zero, List.set_cons_succ]
            refine lay_take (i := 4) (v := ?vg4) rfl (by kernel_rfl) (by kernel_rfl) (by kernel_rfl) (fun _ _ _ h => h) (Or.inl ⟨by rfl, ?yg4⟩) (by assumption) ?_
            case yg4 => (intro w hSw; (try dsimp only at hSw); go_simp; try with_reducible rfl)
            try simp only [Act.put, List.setIfInBounds_toArray, List.set_cons_zero, List.set_cons_succ]
            refine lay_take (i := 5) (v := ?vg5) rfl (by kernel_rfl) (by kernel_rfl) (by kernel_rfl) (fun _ _ _ h => h) (Or.inl ⟨by rfl, ?yg5⟩) (by assumption) ?_
            case yg5 => (intro w hSw; (try dsimp only at hSw); go_simp; try with_reducible rfl)
            try simp only [Act.put, List.setIfInBounds_toArray, List.set_cons_zero, List.set_cons_succ]
            refine lay_take (i := 6) (v := ?vg6) rfl (by kernel_rfl) (by kernel_rfl) (by kernel_rfl) (fun _ _ _ h => h) (Or.inl ⟨by rfl, ?yg6⟩) (by assumption) ?_
            case yg6 => (intro w hSw; (try dsimp only at hSw); go_simp; try with_reducible rfl)
            try simp only [Act.put, List.setIfInBounds_toArray, List.set_cons_zero, List.set_cons_succ]
            refine lay_take (i := 7) (v := undef) rfl (by kernel_rfl) (by kernel_rfl) (by kernel_rfl) (fun _ _ _ h => h) (Or.inr ⟨by rfl, rfl⟩) (by assumption) ?_
            try simp only [Act.put, List.setIfInBounds_toArray, List.set_cons_zero, List.set_cons_succ]
            refine lay_take (i := 8) (v := undef) rfl (by kernel_rfl) (by kernel_rfl) (by kernel_rfl) (fun _ _ _ h => h) (Or.inr ⟨by rfl, rfl⟩) (by assumption) ?_
            try simp only [Act.put, List.setIfInBounds_toArray, List.set_cons_zero, List.set_cons_succ]
            refine lay_take (i := 9) (v := undef) rfl (by kernel_rfl) (by kernel_rfl) (by kernel_rfl) (fun _ _ _ h => h) (Or.inr ⟨by rfl, rfl⟩) (by assumption) ?_
            try simp only [Act.put, List.setIfInBounds_toArray, List.set_cons_zero, List.set_cons_succ]
            refine lay_take (i := 10) (v := undef) rfl (by kernel_rfl) (by kernel_rfl) (by kernel_rfl) (fun _ _ _ h => h) (Or.inr ⟨by rfl, rfl⟩) (by assumption) ?_
            try simp only [Act.put, List.setIfInBounds_toArray, List.set_cons_zero, List.set_cons_succ]
            refine lay_take (i := 11) (v := undef) rfl (by kernel_rfl) (by kernel_rfl) (by kernel_rfl) (fun _ _ _ h => h) (Or.inr ⟨by rfl, rfl⟩) (by assumption) ?_
            try simp only [Act.put, List.setIfInBounds_toArray, List.set_cons_zero, List.set_cons_succ]
            refine lay_take (i := 12) (v := undef) rfl (by kernel_rfl) (by kernel_rfl) (by kernel_rfl) (fun _ _ _ h => h) (Or.inr ⟨by rfl, rfl⟩) (by assumption) ?_
            try simp only [Act.put, List.setIfInBounds_toArray, List.set_cons_zero, List.set_cons_succ]
            refine lay_take (i := 13) (v := undef) rfl (by kernel_rfl) (by kernel_rfl) (by kernel_rfl) (fun _ _ _ h => h) (Or.inr ⟨by rfl, rfl⟩) (by assumption) ?_
            try simp only [Act.put, List.setIfInBounds_toArray, List.set_cons_zero, List.set_cons_succ]
            refine lay_take (i := 14) (v := undef) rfl (by kernel_rfl) (by kernel_rfl) (by kernel_rfl) (fun _ _ _ h => h) (Or.inr ⟨by rfl, rfl⟩) (by assumption) ?_
            try simp only [Act.put, List.setIfInBounds_toArray, List.set_cons_zero, List.set_cons_succ]
            refine lay_take (i := 15) (v := ?vg15) rfl (by kernel_rfl) (by kernel_rfl) (by kernel_rfl) (fun _ _ _ h => h) (Or.inl ⟨by rfl, ?yg15⟩) (by assumption) ?_
            case yg15 => (intro w hSw; (try dsimp only at hSw); go_simp; try with_reducible rfl)
            try simp only [Act.put, List.setIfInBounds_toArray, List.set_cons_zero, List.set_cons_succ]
            refine lay_take (i := 16) (v := ?vg16) rfl (by kernel_rfl) (by kernel_rfl) (by kernel_rfl) (fun _ _ _ h => h) (Or.inl ⟨by rfl, ?yg16⟩) (by assumption) ?_
            case yg16 => (intro w hSw; (try dsimp only at hSw); go_simp; try with_reducible rfl)
            try simp only [Act.put, List.setIfInBounds_toArray, List.set_cons_zero, List.set_cons_succ]
            refine lay_take (i := 17) (v := ?vg17) rfl (by kernel_rfl) (by kernel_rfl) (by kernel_rfl) (fun _ _ _ h => h) (Or.inl ⟨by rfl, ?yg17⟩) (by assumption) ?_
            case yg17 => (intro w hSw; (try dsimp only at hSw); go_simp; try with_reducible rfl)
            try simp only [Act.put, List.setIfInBounds_toArray, List.set_cons_zero, List.set_cons_succ]
            refine lay_take (i := 18) (v := ?vg18) rfl (by kernel_rfl) (by kernel_rfl) (by kernel_rfl) (fun _ _ _ h => h) (Or.inl ⟨by rfl, ?yg18⟩) (by assumption) ?_
            case yg18 => (intro w hSw; (try dsimp only at hSw); go_simp; try with_reducible rfl)
            try simp only [Act.put, List.setIfInBounds_toArray, List.set_cons_zero, List.set_cons_succ]
            refine lay_take (i := 19) (v := ?vg19) rfl (by kernel_rfl) (by kernel_rfl) (by kernel_rfl) (fun _ _ _ h => h) (Or.inl ⟨by rfl, ?yg19⟩) (by assumption) ?_
            case yg19 => (intro w hSw; (try dsimp only at hSw); go_simp; try with_reducible rfl)
            try simp only [Act.put, List.setIfInBounds_toArray, List.set_cons_zero, List.set_cons_succ]
            refine lay_take (i := 20) (v := ?vg20) rfl (by kernel_rfl) (by kernel_rfl) (by kernel_rfl) (fun _ _ _ h => h) (Or.inl ⟨by rfl, ?yg20⟩) (by assumption) ?_
            case yg20 => (intro w hSw; (try dsimp only at hSw); go_simp; try with_reducible rfl)
            try simp only [Act.put, List.setIfInBounds_toArray, List.set_cons_zero, List.set_cons_succ]
            refine lay_take (i := 21) (v := ?vg21) rfl (by kernel_rfl) (by kernel_rfl) (by kernel_rfl) (fun _ _ _ h => h) (Or.inl ⟨by rfl, ?yg21⟩) (by assumption) ?_
            case yg21 => (intro w hSw; (try dsimp only at hSw); go_simp; try with_reducible rfl)
            try simp only [Act.put, List.setIfInBounds_toArray, List.set_cons_zero, List.set_cons_succ]
            refine lay_take (i := 22) (v := ?vg22) rfl (by kernel_rfl) (by kernel_rfl) (by kernel_rfl) (fun _ _ _ h => h) (Or.inl ⟨by rfl, ?yg22⟩) (by assumption) ?_
            case yg22 => (intro w hSw; (try dsimp only at hSw); go_simp; try with_reducible rfl)
            try simp only [Act.put, List.setIfInBounds_toArray, List.set_cons_zero, List.set_cons_succ]
            refine lay_take (i := 23) (v := ?vg23) rfl (by kernel_rfl) (by kernel_rfl) (by kernel_rfl) (fun _ _ _ h => h) (Or.inl ⟨by rfl, ?yg23⟩) (by assumption) ?_
            case yg23 => (intro w hSw; (try dsimp only at hSw); go_simp; try with_reducible rfl)
            try simp only [Act.put, List.setIfInBounds_toArray, List.set_cons_zero, List.set_cons_succ]
            refine lay_take (i := 24) (v := ?vg24) rfl (by kernel_rfl) (by kernel_rfl) (by kernel_rfl) (fun _ _ _ h => h) (Or.inl ⟨by rfl, ?yg24⟩) (by assumption) ?_
            case yg24 => (intro w hSw; (try dsimp only at hSw); go_simp; try with_reducible rfl)
            try simp only [Act.put, List.setIfInBounds_toArray, List.set_cons_zero, List.set_cons_succ]
            refine lay_take (i := 25) (v := ?vg25) rfl (by kernel_rfl) (by kernel_rfl) (by kernel_rfl) (fun _ _ _ h => h) (Or.inl ⟨by rfl, ?yg25⟩) (by assumption) ?_
            case yg25 => (intro w hSw; (try dsimp only at hSw); go_simp; try with_reducible rfl)
            try simp only [Act.put, List.setIfInBounds_toArray, List.set_cons_zero, List.set_cons_succ]
            refine lay_take (i := 26) (v := ?vg26) rfl (by kernel_rfl) (by kernel_rfl) (by kernel_rfl) (fun _ _ _ h => h) (Or.inl ⟨by rfl, ?yg26⟩) (by assumption) ?_
            case yg26 => (intro w hSw; (try dsimp only at hSw); go_simp; try with_reducible rfl)
            try simp only [Act.put, List.setIfInBounds_toArray, List.set_cons_zero, List.set_cons_succ]
            refine lay_take (i := 27) (v := ?vg27) rfl (by kernel_rfl) (by kernel_rfl) (by kernel_rfl) (fun _ _ _ h => h) (Or.inl ⟨by rfl, ?yg27⟩) (by assumption) ?_
            case yg27 => (intro w hSw; (try dsimp only at hSw); go_simp; try with_reducible rfl)
            try simp only [Act.put, List.setIfInBounds_toArray, List.set_cons_zero, List.set_cons_succ]
            refine lay_take (i := 28) (v := ?vg28) rfl (by kernel_rfl) (by kernel_rfl) (by kernel_rfl) (fun _ _ _ h => h) (Or.inl ⟨by rfl, ?yg28⟩) (by assumption) ?_
            case yg28 => (intro w hSw; (try dsimp only at hSw); go_simp; try with_reducible rfl)
            try simp only [Act.put, List.setIfInBounds_toArray, List.set_cons_zero, List.set_cons_succ]
            refine lay_take (i := 30) (v := ?vg30) rfl (by kernel_rfl) (by kernel_rfl) (by kernel_rfl) (fun _ _ _ h => h) (Or.inl ⟨by rfl, ?yg30⟩) (by assumption) ?_
            case yg30 => (intro w hSw; (try dsimp only at hSw); go_simp; try with_reducible rfl)
            try simp only [Act.put, List.setIfInBounds_toArray, List.set_cons_zero, List.set_cons_succ]
            refine wpAnyH_ready (rs := [29]) (by kernel_rfl) (by simp) ?_
            refine lay_cons rfl (fun KK hK => ?_) AllReadyH.nil
            go_simp
            refine (slot_tb HPSd.out.tb key1 HOK.out.1).mono ?_
            rintro e v20 ⟨rfl, b20⟩
            rw [HSL.out]
            refine hK.out _ _ ?_ (fun hHeld => ?_)
            · obtain ⟨hS0, hS1, hS2⟩ := hHeld
              exact ⟨cell_keep b20 hS0, cell_keep b20 hS1, cell_keep b20 hS2⟩
            clear hK KK
            try simp only [Act.put, List.setIfInBounds_toArray, List.set_cons_zero, List.set_cons_succ]
            refine lay_take (i := 31) (v := ?vg31) rfl (by kernel_rfl) (by kernel_rfl) (by kernel_rfl) (fun _ _ _ h => h) (Or.inl ⟨by rfl, ?yg31⟩) (by assumption) ?_
            case yg31 => (intro w hSw; (try dsimp only at hSw); go_simp; try with_reducible rfl)
            try simp only [Act.put, List.setIfInBounds_toArray, List.set_cons_zero, List.set_cons_succ]
            refine lay_take (i := 32) (v := ?vg32) rfl (by kernel_rfl) (by kernel_rfl) (by kernel_rfl) (fun _ _ _ h => h) (Or.inl ⟨by rfl, ?yg32⟩) (by assumption) ?_
            case yg32 => (intro w hSw; (try dsimp only at hSw); go_simp; try with_reducible rfl)
            try simp only [Act.put, List.setIfInBounds_toArray, List.set_cons_zero, List.set_cons_succ]
            refine lay_take (i := 33) (v := ?vg33) rfl (by kernel_rfl) (by kernel_rfl) (by kernel_rfl) (fun _ _ _ h => h) (Or.inl ⟨by rfl, ?yg33⟩) (by assumption) ?_
            case yg33 => (intro w hSw; (try dsimp only at hSw); go_simp; try with_reducible rfl)
            try simp only [Act.put, List.setIfInBounds_toArray, List.set_cons_zero, List.set_cons_succ]
            refine lay_take (i := 34) (v := ?vg34) rfl (by kernel_rfl) (by kernel_rfl) (by kernel_rfl) (fun _ _ _ h => h) (Or.inl ⟨by rfl, ?yg34⟩) (by assumption) ?_
            case yg34 => (intro w hSw; (try dsimp only at hSw); go_simp; try with_reducible rfl)
            try simp only [Act.put, List.setIfInBounds_toArray, List.set_cons_zero, List.set_cons_succ]
            refine lay_take (i := 36) (v := ?vg36) rfl (by kernel_rfl) (by kernel_rfl) (by kernel_rfl) (fun _ _ _ h => h) (Or.inl ⟨by rfl, ?yg36⟩) (by assumption) ?_
            case yg36 => (intro w hSw; (try dsimp only at hSw); go_simp; try with_reducible rfl)
            try simp only [Act.put, List.setIfInBounds_toArray, List.set_cons_zero, List.set_cons_succ]
            refine wpAnyH_ready (rs := [35]) (by kernel_rfl) (by simp) ?_
            refine lay_cons rfl (fun KK hK => ?_) AllReadyH.nil
            go_simp
            refine (len_below (HPSd.out.next b20).tb).mono ?_
            rintro e v15 ⟨rfl, b15⟩
            refine hK.out _ _ ?_ (fun hHeld => ?_)
            · obtain ⟨hS0, hS1, hS2⟩ := hHeld
              exact ⟨cell_keep b15 hS0, cell_keep b15 hS1, cell_keep b15 hS2⟩
            clear hK KK
            try simp only [Act.put, List.setIfInBounds_toArray, List.set_cons_zero, List.set_cons_succ]
            refine wpAnyH_ready (rs := [37]) (by kernel_rfl) (by simp) ?_
            refine lay_cons rfl (fun KK hK => ?_) AllReadyH.nil
            go_simp
            refine (rlen_m HPSd.out.tb.good.len ((HPSd.out.next b20).next b15).ref HPSd.out.tb.good (K : Int)).mono ?_
            rintro e v21 ⟨rfl, b21⟩
            refine hK.out _ _ ?_ (fun hHeld => ?_)
            · obtain ⟨hS0, hS1, hS2⟩ := hHeld
              exact ⟨cell_keep b21 hS0, cell_keep b21 hS1, cell_keep b21 hS2⟩
            clear hK KK
            try simp only [Act.put, List.setIfInBounds_toArray, List.set_cons_zero, List.set_cons_succ]
            refine lay_take (i := 38) (v := ?vg38) rfl (by kernel_rfl) (by kernel_rfl) (by kernel_rfl) (fun _ _ _ h => h) (Or.inl ⟨by rfl, ?yg38⟩) (by assumption) ?_
            case yg38 => (intro w hSw; (try dsimp only at hSw); go_simp; try with_reducible rfl)
            try simp only [Act.put, List.setIfInBounds_toArray, List.set_cons_zero, List.set_cons_succ]
            refine lay_take (i := 39) (v := ?vg39) rfl (by kernel_rfl) (by kernel_rfl) (by kernel_rfl) (fun _ _ _ h => h) (Or.inl ⟨by rfl, ?yg39⟩) (by assumption) ?_
            case yg39 => (intro w hSw; (try dsimp only at hSw); go_simp; try with_reducible rfl)
            try simp only [Act.put, List.setIfInBounds_toArray, List.set_cons_zero, List.set_cons_succ]
            refine wpAnyH_done (by kernel_rfl) ?_ _
            have HPS12 := Lib.hid (((HPSd.out.next b20).next b15).next b21)
            clear HPSd b20 b15 b21 HPS9 q2 x0 x1
            go_wp2_with fail
            go_roundw
            case rel => exact ⟨k + 1, _, _, _, by omega, by go_num, HPS12⟩
            case measure => simp [intOf]; omega
    · have hkn : ¬ (k : Int) < (m : Int) := by omega
      have hkl : (keysP L).length ≤ 4096 := by
        have h1 := keysP_le L
        have h2 := hS.out.tb.good.two.2
        omega
      obtain ⟨x0, x1, x2, x3⟩ := zero_two hS.out.box
      have HSd := Lib.hid (hS.out.next ((Below.refl _ _).drew))
      clear hlt hk
      go_wp2_with fail
      go_region_held3 (fun w' => w'.cell? ⟨bx, 0, none⟩ = some (.slice (some ⟨gr, 0, none⟩) (slotsFor K) (slotsFor K)) ∧ w'.cell? ⟨bx, 1, none⟩ = some (.int .i64 K))
        ((go_split_ands; (try dsimp only); (refine ⟨?_, ?_⟩ <;> first | (with_reducible assumption) | (with_reducible exact drew_keep (by assumption)) | (with_reducible exact cell_keep b22 (by assumption)) | (with_reducible exact cell_keep b23 (by assumption)) | (with_reducible exact cell_keep b13 (by assumption)))))
        (first
          | (go_at_call 13; refine (keys_tb HSd.out.tb).mono ?_; rintro e v13 ⟨kv, rfl, hks, b13⟩; obtain ⟨KB, kcb, rfl, hkb⟩ := hks.reads)
          | (go_at_call 23; refine (rkeys_m HSd.out.tb.good.len (HSd.out.next b13).ref hq1 (K : Int)).mono ?_; rintro e v23 ⟨kv2, rfl, hks2, b23⟩; obtain ⟨KC, kcc, rfl, hkc⟩ := hks2.reads)
          | (go_at_call 22; refine (same_any (hkb.below b23) hkc hkl).mono ?_; rintro e v22 ⟨rfl, b22⟩))
      rename_i hHeld
      have HS8 := Lib.hid (((HSd.out.next b13).next b23).next b22)
      clear hHeld b13 b23 b22 hkb hkc hks hks2 HSd hS x0 x1 x2 x3
      go_wp2_with fail
      go_ret
      exact ⟨rfl, HS8.out.below⟩
theorem plays_walk (n : Int) (a : Option Addr) (len cap : Nat) (L : List OpV) (w : World) (_hn : (Lit.int .i64 n).wf = true) (hrow : RowOf cells32 3 ok32 w a len cap L) (hr : len * 32 ≤ 140737488351232) :
    Calls Try.prog 4 #[.int .i64 n, .slice a len cap] w fun e w' => TruePost w e w' := by
  have hs := hrow.size
  subst hs
  by_cases hb : n < 1 ∨ 1024 < n
  · exact plays_bad n hb _ w
  · obtain ⟨k, rfl⟩ := Int.eq_ofNat_of_zero_le (show 0 ≤ n by omega)
    exact slotsPlays_good k (by omega) (by omega) a cap L w (opsA_of_row hrow) (by omega)
end Go.Proofs.Ytakhofmnldlppaa
