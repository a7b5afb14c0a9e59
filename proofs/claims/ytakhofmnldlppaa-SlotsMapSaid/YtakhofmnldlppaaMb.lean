/- The walk of SlotsMap. Conditions: the row lies as Go's slices do. -/
import Derived.Test.YtakhofmnldlppaaMa
namespace Go.Proofs.Ytakhofmnldlppaa
open Go.RowKit Go.Maps Go.WideMaps

/-- A look-up of a key of which the answer is known, at the operation. -/
theorem wpList_look (w : World) {ops : Array Oper} {rest : List Oper} {o : Oper} {a : Act} {Q : Exit → Act → World → Prop} (hg : o.guard = none) (m x : Operand) (hop : o.op = Op.lookup 29 m x true)
    (b c : Nat) (D : DataW Unit) (hm : a.eval m = .map (some b)) (hown : w.ownsMap (H := Unit) Try.prog 9 (plainElem Try.prog 3) b c D) (s : ByteArray) (hx : a.eval x = .string s) (hs : s.size ≤ 9223372036854775807)
    (i : Int) (y : Bool) (hi : D.atKey (key s) (.lit (.int .i64 0)) = .lit (.int .i64 i)) (hy : Maps.has D (key s) = y)
    (hK : wpList Try.prog ops Q rest (a.put o.dst (.tuple #[.int .i64 i, .bool y])) w) :
    wpList Try.prog ops Q (o :: rest) a w :=
  wpList_lookup_own_ok_int w hg m x 29 hop 9 3 .i64 law9 Try.underlying29 Try.underlying3 (zero3 _) b c D hm hown _ _ hx (keyOf_string_mk Try.underlying9 hs) (fun c hat _ => by
    have hat' : D.atKey (key s) (.lit (.int .i64 0)) = .lit (.int .i64 c) := hat
    rw [hi] at hat'
    injection hat' with hat'
    injection hat' with _ hat'
    subst hat'
    have hy' : Maps.has D (Lit.string s.data.toList) = y := hy
    rw [hy']
    exact hK)
abbrev MapAt (w : World) (m c : Nat) (D : DataW Unit) : Prop := w.ownsMap (H := Unit) Try.prog 9 (plainElem Try.prog 3) m c D
theorem map_block {w w' : World} {m c : Nat} {D : DataW Unit} (h : MapAt w m c D) (hx : w'.heap[m]? = w.heap[m]?) : MapAt w' m c D := by
  obtain ⟨es, clock, hb, r⟩ := h
  exact ⟨es, clock, by rw [hx]; exact hb, r⟩
theorem map_len {w : World} {m c : Nat} {D : DataW Unit} {n : Nat} (h : MapAt w m c D) (hn : Maps.size D = n) (ty : TypeId) : (Builtin.len_ #[29] ty #[.map (some m)]).run Try.prog w = .ok (.int .i64 n) w := by
  have := h.len Try.underlying29 ty
  rw [hn] at this
  exact this
/-- A table and a map that lie apart from each other, both behind what was there. -/
structure Tri (w0 w : World) (b g m c : Nat) (D : DataW Unit) (L : List S) (most n : Nat) : Prop where
  below : Below w0.heap.size w0 w
  b0 : w0.heap.size ≤ b
  g0 : w0.heap.size ≤ g
  m0 : w0.heap.size ≤ m
  n1 : m ≠ b
  n2 : m ≠ g
  tb : Tb w b g L most n
  map : MapAt w m c D
  like : Like D L n
theorem Tri.next {w0 w w' : World} {b g m c : Nat} {D : DataW Unit} {L : List S} {most n : Nat} (h : Tri w0 w b g m c D L most n) (k : Below w.heap.size w w') : Tri w0 w' b g m c D L most n :=
  ⟨h.below.trans (k.mono h.below.size), h.b0, h.g0, h.m0, h.n1, h.n2, h.tb.below k, map_block h.map (k.block _ h.map.lt), h.like⟩
/-- The table is written. -/
theorem Tri.turn {w0 w w' : World} {b g m c : Nat} {D : DataW Unit} {L L' : List S} {most n n' : Nat} (h : Tri w0 w b g m c D L most n) (k : Near w w' b g) (t : Tb w' b g L' most n') (l : Like D L' n') : Tri w0 w' b g m c D L' most n' :=
  ⟨h.below.trans (k.below h.below.size h.b0 h.g0), h.b0, h.g0, h.m0, h.n1, h.n2, t, map_block h.map (k.block _ h.map.lt h.n1 h.n2), l⟩
theorem like_full {D : DataW Unit} {L : List S} {n : Nat} {s : ByteArray} (h : Like D L n) (G : Good L n n) (hs : s ∉ keysP L) (v : Int) : Like D (setP L n n s v).2.1 (setP L n n s v).2.2 := by
  rw [setP_full G hs]; exact h
theorem tri_put {w0 w w6 w7 : World} {b g m k : Nat} {D D' : DataW Unit} {L L' : List S} {most n n' : Nat} (h : Tri w0 w b g m k D L most n) (hN : Near w w6 b g) (t : Tb w6 b g L' most n') (h7 : MapAt w7 m (k + 1) D') (hg : w6.grownBy w7 (some m)) (l : Like D' L' n') : Tri w0 w7 b g m (k + 1) D' L' most n' := by
  have hb := h.below.trans (hN.below h.below.size h.b0 h.g0)
  refine ⟨hb.grown hg hb.size (fun q hq => by injection hq with hq; rw [← hq]; exact h.m0), h.b0, h.g0, h.m0, h.n1, h.n2, ⟨t.at'.heap ?_ ?_, t.good⟩, h7, l⟩
  · exact hg.block _ t.at'.ltb (fun e => h.n1 (by injection e with e; exact e.symm))
  · exact hg.block _ t.at'.ltg (fun e => h.n2 (by injection e with e; exact e.symm))
theorem Tri.more {w0 w : World} {b g m k : Nat} {D : DataW Unit} {L : List S} {most n : Nat} (h : Tri w0 w b g m k D L most n) : Tri w0 w b g m (k + 1) D L most n := ⟨h.below, h.b0, h.g0, h.m0, h.n1, h.n2, h.tb, h.map.mono (Nat.le_succ _), h.like⟩
theorem drop_get {L : List S} {most n : Nat} (G : Good L most n) (s : ByteArray) : (dropP L n s).1 = (getP L s).2 := by
  by_cases hs : s ∈ keysP L
  · obtain ⟨p, hp, hu, rfl⟩ := mem_keysP.1 hs
    rw [dropP_there G hp hu, getP_yes G (ix_mem hp) hu]
  · rw [dropP_gone G hs, getP_no G hs]
theorem set_zero {L : List S} {most n : Nat} (G : Good L most n) {s : ByteArray} (v : Int) (h : s ∈ keysP L ∨ n ≠ most) : (setP L most n s v).1 = 0 := by
  by_cases hs : s ∈ keysP L
  · obtain ⟨p, hp, hu, rfl⟩ := mem_keysP.1 hs
    rw [setP_there G hp hu]
  · rw [setP_new G hs (h.resolve_left hs)]
theorem set_six {L : List S} {n : Nat} (G : Good L n n) {s : ByteArray} (hs : s ∉ keysP L) (v : Int) : (setP L n n s v).1 = 6 := by rw [setP_full G hs]
theorem get_true {L : List S} {most n : Nat} (G : Good L most n) {s : ByteArray} (hs : s ∈ keysP L) : (getP L s).2 = true := (getP_is G s).2 hs
set_option maxRecDepth 100000 in
set_option maxHeartbeats 8000000 in
theorem slotsMap_walk (n : Nat) (hn : n ≤ 65535) (A : Option Addr) (c : Nat) (l : List OpV) (z : ByteArray) (w : World) (h : OpsA w A c l) (h1 : l.length ≤ 9223372036854775807) (hz : z.size ≤ 9223372036854775807) :
    Calls Try.prog 3 #[.int .u16 n, .slice A l.length c, .string z] w fun e w' => TruePost w e w' := by
  have hmm := @run_makeMap Try.prog
  have HA := Lib.hid h
  have H1 := Lib.hid h1
  clear h h1
  go_enter Try.func3, Try.ntmps3
  go_wp2_with fail
  obtain ⟨K, hK⟩ : ∃ K : Nat, 1 + (n : Int) % 1024 = (K : Int) := ⟨1 + n % 1024, by omega⟩
  have hK0 : 1 ≤ K := by omega
  have hK1 : K ≤ 1024 := by omega
  rw [hK]
  refine (new_tb K hK0 hK1 w).mono ?_
  rintro e w1 ⟨b, g, rfl, ht, l1, l2', hB⟩
  have HT := Lib.hid ht
  have HB := Lib.hid hB
  have HL := Lib.hid (And.intro l1 l2')
  clear ht hB l1 l2'
  go_wp2_with fail
  refine (fixed_any w1).mono ?_
  rintro e w2 ⟨rfl, hB⟩
  have HT2 := Lib.hid (HT.out.below hB)
  have HB2 := Lib.hid (HB.out.trans (hB.mono HB.out.size))
  clear hB HT HB
  by_cases hlong : 500 < z.size
  · have hlz : (500 : Int) < (z.size : Int) := by omega
    go_wp2_with fail
    refine (fixed_any w2).mono ?_
    rintro e w3 ⟨rfl, hB⟩
    have HB3 := Lib.hid (HB2.out.trans (hB.mono HB2.out.size))
    clear hB
    go_wp2_with fail
    go_ret
    exact ⟨rfl, HB3.out⟩
  · have hlz : ¬ (500 : Int) < (z.size : Int) := by omega
    have hR : Tri w (w2.alloc (.map #[] 0)) b g w2.heap.size 0 (.map []) (blank (slotsFor K)) K 0 :=
      ⟨HB2.out.alloc HB2.out.size _, HL.out.1, HL.out.2, HB2.out.size, Nat.ne_of_gt HT2.out.at'.ltb, Nat.ne_of_gt HT2.out.at'.ltg, HT2.out.below ((Below.refl _ _).alloc (Nat.le_refl _) _), World.ownsMap_made w2 _ _ _, like_new hK0 hK1⟩
    have HR := Lib.hid hR
    clear hR
    go_wp2_with fail
    obtain ⟨bm, hbm⟩ : ∃ bm, w2.heap.size = bm := ⟨_, rfl⟩
    rw [hbm] at HR ⊢
    refine (cut_any (HA.out.below HR.out.below) H1.out).mono ?_
    rintro e w4 ⟨kc, hol, rfl, hB⟩
    obtain ⟨ops, hopse⟩ : ∃ ops, l.take kc = ops := ⟨_, rfl⟩
    have hops := HA.out.take kc
    rw [hopse] at hops hol ⊢
    have HO := Lib.hid hops
    have HR4 := Lib.hid (HR.out.next hB)
    obtain ⟨m, hm⟩ : ∃ m, ops.length = m := ⟨_, rfl⟩
    rw [hm] at hol ⊢
    have HM := Lib.hid hm
    clear hB HR hops hm hopse hmm HT2 HB2 hbm HL HA H1
    go_wp2_with fail
    go_loopw [55] (fun i wr => ∃ (k : Nat) (D : DataW Unit) (L : List S) (n : Nat), k ≤ m ∧ i = .int .i64 k ∧ Hid (Tri w wr b g bm k D L K n)) (fun i _ => m - (intOf i).toNat)
    case atStart => exact ⟨0, _, _, _, Nat.zero_le _, rfl, HR4⟩
    case round =>
      obtain ⟨k, D, L, n, hk, rfl, hR⟩ := hrel
      clear HR4
      by_cases hlt : k < m
      · obtain ⟨o, ho⟩ : ∃ o, ops[k]? = some o := ⟨_, List.getElem?_eq_getElem (by rw [HM.out]; exact hlt)⟩
        have HOK := Lib.hid (HO.out.ok o (List.mem_of_getElem? ho))
        obtain ⟨q, f, rfl, a0, a1, a2⟩ := (HO.out.below hR.out.below).row k o ho
        have hk0 : (0 : Int) ≤ (k : Int) := by omega
        have hkn : (k : Int) < (m : Int) := by omega
        have hkm : k < maxLen := by unfold maxLen; omega
        obtain ⟨kind, v1, key1⟩ := o
        simp only at a0 a1 a2
        have q0 : (wr.alloc (.cells #[.int .i64 kind, .int .i64 v1, .string key1] 32)).cell? ⟨wr.heap.size, 0, none⟩ = some (.int .i64 kind) := cell_new rfl _ _ 0
        have q1 : (wr.alloc (.cells #[.int .i64 kind, .int .i64 v1, .string key1] 32)).cell? ⟨wr.heap.size, 1, none⟩ = some (.int .i64 v1) := cell_new rfl _ _ 1
        have q2 : (wr.alloc (.cells #[.int .i64 kind, .int .i64 v1, .string key1] 32)).cell? ⟨wr.heap.size, 2, none⟩ = some (.string key1) := cell_new rfl _ _ 2
        have hba : Below wr.heap.size wr (wr.alloc (.cells #[.int .i64 kind, .int .i64 v1, .string key1] 32)) := (Below.refl _ _).alloc (Nat.le_refl _) _
        have HR6 := Lib.hid (hR.out.next hba)
        have nb : wr.heap.size ≠ b := Nat.ne_of_gt hR.out.tb.at'.ltb
        have ng : wr.heap.size ≠ g := Nat.ne_of_gt hR.out.tb.at'.ltg
        have hlen := map_len HR6.out.map HR6.out.like.size
        clear hR hba ho
        by_cases h0 : kind = 0
        · subst h0
          by_cases hs : key1 ∈ keysP L
          · have HHAS := Lib.hid ((HR6.out.like.has key1).trans (get_true HR6.out.tb.good hs))
            have H0 := Lib.hid (set_zero HR6.out.tb.good v1 (.inl hs))
            by_cases hnK : n = K
            · subst hnK
              go_wp2_with (first
                | (at_lookup; refine wpList_look _ rfl _ _ rfl bm k D rfl HR6.out.map key1 rfl HOK.out.1 _ _ (HR6.out.like.val key1) HHAS.out ?_)
                | fail)
              refine (set_tb HR6.out.tb key1 HOK.out.1 v1).mono ?_
              rintro e w7 ⟨rfl, ht, hN⟩
              rw [H0.out]
              have HT7 := Lib.hid ht
              have HN7 := Lib.hid hN
              have hm7 : MapAt w7 bm k D := map_block HR6.out.map (hN.block _ HR6.out.map.lt HR6.out.n1 HR6.out.n2)
              have q2' : w7.cell? ⟨wr.heap.size, 2, none⟩ = some (.string key1) := near_keep hN nb ng q2
              have q1' : w7.cell? ⟨wr.heap.size, 1, none⟩ = some (.int .i64 v1) := near_keep hN nb ng q1
              have hkey := keyOf_string_mk Try.underlying9 HOK.out.1
              have hwf := HOK.out.2
              clear ht hN a0 a1 a2 q0 q1 q2 hlen
              go_wp2_with (first
                | (at_mapUpdate; refine wpList_mapUpdate_own _ rfl _ _ _ 29 rfl 9 3 law9 Try.underlying29 _ bm k _ rfl hm7 hkm _ _ _ rfl rfl hkey _ [] (plainElem_int Try.underlying3 hwf) ?_; intro w8 hown8 hgr8)
                | fail)
              have HR8 := Lib.hid (tri_put HR6.out HN7.out HT7.out hown8 hgr8 (like_put HR6.out.like HR6.out.tb.good key1 HOK.out.1 v1 H0.out (hown8.tidy law9)))
              clear hown8 hgr8 hm7 q1' q2' HT7 HN7 HR6 hkey hwf
              go_wp2_with fail
              go_roundw
              case rel => exact ⟨k + 1, _, _, _, by omega, by go_num, HR8⟩
              case measure => simp [intOf]; omega
            · have hnz : ((n : Int) == (K : Int)) = false := beq_eq_false_iff_ne.2 (by omega)
              go_wp2_with (first
                | (at_lookup; refine wpList_look _ rfl _ _ rfl bm k D rfl HR6.out.map key1 rfl HOK.out.1 _ _ (HR6.out.like.val key1) HHAS.out ?_)
                | fail)
              refine (set_tb HR6.out.tb key1 HOK.out.1 v1).mono ?_
              rintro e w7 ⟨rfl, ht, hN⟩
              rw [H0.out]
              have HT7 := Lib.hid ht
              have HN7 := Lib.hid hN
              have hm7 : MapAt w7 bm k D := map_block HR6.out.map (hN.block _ HR6.out.map.lt HR6.out.n1 HR6.out.n2)
              have q2' : w7.cell? ⟨wr.heap.size, 2, none⟩ = some (.string key1) := near_keep hN nb ng q2
              have q1' : w7.cell? ⟨wr.heap.size, 1, none⟩ = some (.int .i64 v1) := near_keep hN nb ng q1
              have hkey := keyOf_string_mk Try.underlying9 HOK.out.1
              have hwf := HOK.out.2
              clear ht hN a0 a1 a2 q0 q1 q2 hlen
              go_wp2_with (first
                | (at_mapUpdate; refine wpList_mapUpdate_own _ rfl _ _ _ 29 rfl 9 3 law9 Try.underlying29 _ bm k _ rfl hm7 hkm _ _ _ rfl rfl hkey _ [] (plainElem_int Try.underlying3 hwf) ?_; intro w8 hown8 hgr8)
                | fail)
              have HR8 := Lib.hid (tri_put HR6.out HN7.out HT7.out hown8 hgr8 (like_put HR6.out.like HR6.out.tb.good key1 HOK.out.1 v1 H0.out (hown8.tidy law9)))
              clear hown8 hgr8 hm7 q1' q2' HT7 HN7 HR6 hkey hwf
              go_wp2_with fail
              go_roundw
              case rel => exact ⟨k + 1, _, _, _, by omega, by go_num, HR8⟩
              case measure => simp [intOf]; omega
          · have HHAS := Lib.hid ((HR6.out.like.has key1).trans (congrArg Prod.snd (getP_no HR6.out.tb.good hs)))
            by_cases hnK : n = K
            · subst hnK
              have H0 := Lib.hid (set_six HR6.out.tb.good hs v1)
              have HNO := Lib.hid hs
              clear hs
              go_wp2_with (first
                | (at_lookup; refine wpList_look _ rfl _ _ rfl bm k D rfl HR6.out.map key1 rfl HOK.out.1 _ _ (HR6.out.like.val key1) HHAS.out ?_)
                | fail)
              refine (set_tb HR6.out.tb key1 HOK.out.1 v1).mono ?_
              rintro e w7 ⟨rfl, ht, hN⟩
              rw [H0.out]
              have HR7 := Lib.hid (HR6.out.turn hN ht (like_full HR6.out.like HR6.out.tb.good HNO.out v1)).more
              clear ht hN a0 a1 a2 q0 q1 q2 hlen HR6
              go_wp2_with fail
              go_roundw
              case rel => exact ⟨k + 1, _, _, _, by omega, by go_num, HR7⟩
              case measure => simp [intOf]; omega
            · have hnz : ((n : Int) == (K : Int)) = false := beq_eq_false_iff_ne.2 (by omega)
              have H0 := Lib.hid (set_zero (s := key1) HR6.out.tb.good v1 (.inr hnK))
              go_wp2_with (first
                | (at_lookup; refine wpList_look _ rfl _ _ rfl bm k D rfl HR6.out.map key1 rfl HOK.out.1 _ _ (HR6.out.like.val key1) HHAS.out ?_)
                | fail)
              refine (set_tb HR6.out.tb key1 HOK.out.1 v1).mono ?_
              rintro e w7 ⟨rfl, ht, hN⟩
              rw [H0.out]
              have HT7 := Lib.hid ht
              have HN7 := Lib.hid hN
              have hm7 : MapAt w7 bm k D := map_block HR6.out.map (hN.block _ HR6.out.map.lt HR6.out.n1 HR6.out.n2)
              have q2' : w7.cell? ⟨wr.heap.size, 2, none⟩ = some (.string key1) := near_keep hN nb ng q2
              have q1' : w7.cell? ⟨wr.heap.size, 1, none⟩ = some (.int .i64 v1) := near_keep hN nb ng q1
              have hkey := keyOf_string_mk Try.underlying9 HOK.out.1
              have hwf := HOK.out.2
              clear ht hN a0 a1 a2 q0 q1 q2 hlen
              go_wp2_with (first
                | (at_mapUpdate; refine wpList_mapUpdate_own _ rfl _ _ _ 29 rfl 9 3 law9 Try.underlying29 _ bm k _ rfl hm7 hkm _ _ _ rfl rfl hkey _ [] (plainElem_int Try.underlying3 hwf) ?_; intro w8 hown8 hgr8)
                | fail)
              have HR8 := Lib.hid (tri_put HR6.out HN7.out HT7.out hown8 hgr8 (like_put HR6.out.like HR6.out.tb.good key1 HOK.out.1 v1 H0.out (hown8.tidy law9)))
              clear hown8 hgr8 hm7 q1' q2' HT7 HN7 HR6 hkey hwf
              go_wp2_with fail
              go_roundw
              case rel => exact ⟨k + 1, _, _, _, by omega, by go_num, HR8⟩
              case measure => simp [intOf]; omega
        · have h0z : (kind == 0) = false := beq_eq_false_iff_ne.2 h0
          by_cases h1 : kind = 1
          · subst h1
            obtain ⟨y, hy⟩ : ∃ y, (getP L key1).2 = y := ⟨_, rfl⟩
            have HHAS := Lib.hid ((HR6.out.like.has key1).trans hy)
            have HD := Lib.hid ((drop_get HR6.out.tb.good key1).trans hy)
            have hkey := keyOf_string_mk Try.underlying9 HOK.out.1
            clear hy hlen
            go_wp2_with (first
              | (at_lookup; refine wpList_look _ rfl _ _ rfl bm k D rfl HR6.out.map key1 rfl HOK.out.1 _ _ (HR6.out.like.val key1) HHAS.out ?_)
              | fail)
            refine (drop_tb HR6.out.tb key1 HOK.out.1).mono ?_
            rintro e w7 ⟨rfl, ht, hN⟩
            rw [HD.out]
            have HT7 := Lib.hid ht
            have HN7 := Lib.hid hN
            have hm7 : MapAt w7 bm k D := map_block HR6.out.map (hN.block _ HR6.out.map.lt HR6.out.n1 HR6.out.n2)
            have q2' : w7.cell? ⟨wr.heap.size, 2, none⟩ = some (.string key1) := near_keep hN nb ng q2
            clear ht hN a0 a1 a2 q0 q1 q2
            go_wp2_with (first
              | (at_delete; refine wpList_delete_own _ rfl _ _ 29 9 rfl 3 law9 Try.underlying29 _ bm k D rfl hm7 _ _ rfl hkey ?_; intro w8 hown8 hturn8)
              | fail)
            have HR8 := Lib.hid (tri_put HR6.out HN7.out HT7.out (hown8.mono (Nat.le_succ k)) hturn8.grown (like_del HR6.out.like HR6.out.tb.good key1 (hown8.tidy law9)))
            clear hown8 hturn8 hm7 q2' HT7 HN7 HR6 hkey
            go_wp2_with fail
            go_roundw
            case rel => exact ⟨k + 1, _, _, _, by omega, by go_num, HR8⟩
            case measure => simp [intOf]; omega
          · have h1z : (kind == 1) = false := beq_eq_false_iff_ne.2 h1
            have HR7 := Lib.hid HR6.out.more
            clear HR6 hlen
            go_wp2_with fail
            go_roundw
            case rel => exact ⟨k + 1, _, _, _, by omega, by go_num, HR7⟩
            case measure => simp [intOf]; omega
      · have hkn : ¬ (k : Int) < (m : Int) := by omega
        obtain ⟨wo, hwo⟩ : ∃ wo, wo = wr := ⟨_, rfl⟩
        rw [← hwo] at hR ⊢
        clear hwo HO HM hlt hk
        go_wp2_with fail
        refine (keys_tb hR.out.tb).mono ?_
        rintro e w7 ⟨kv, rfl, hks, hB⟩
        obtain ⟨KA, kc', rfl, hka⟩ := hks.reads
        have HR7 := Lib.hid (hR.out.next hB)
        have HKA := Lib.hid hka
        have HFIT := Lib.hid hR.out.tb.good.fit
        obtain ⟨ks, hkse⟩ : ∃ ks, keysP L = ks := ⟨_, rfl⟩
        rw [hkse] at HKA HFIT ⊢
        have hkl : ks.length ≤ 2048 := by rw [← hkse]; exact Nat.le_trans (keysP_le _) hR.out.tb.good.two.2
        obtain ⟨m2, hm2⟩ : ∃ m2, ks.length = m2 := ⟨_, rfl⟩
        rw [hm2] at hkl ⊢
        have HM2 := Lib.hid hm2
        have HKS := Lib.hid hkse
        clear hR hB hks hka hkse hm2
        go_wp2_with fail
        go_loopw [119] (fun i wr => ∃ (j : Nat), j ≤ m2 ∧ i = .int .i64 j ∧ Hid (Tri w wr b g bm k D L K n) ∧ Hid (StrA wr KA ks)) (fun i _ => m2 - (intOf i).toNat)
        case atStart => exact ⟨0, Nat.zero_le _, rfl, HR7, HKA⟩
        case round =>
          obtain ⟨j, hj, rfl, hR, hS⟩ := hrel
          clear HR7 HKA
          by_cases hlt : j < m2
          · obtain ⟨s, hs⟩ : ∃ s, ks[j]? = some s := ⟨_, List.getElem?_eq_getElem (by rw [HM2.out]; exact hlt)⟩
            obtain ⟨q, rfl, a0⟩ := hS.out j s hs
            have hmem := List.mem_of_getElem? hs
            have HSZ := Lib.hid (HFIT.out s hmem)
            have HY := Lib.hid ((getP_is hR.out.tb.good s).2 (by rw [HKS.out]; exact hmem))
            have hj0 : (0 : Int) ≤ (j : Int) := by omega
            have hjn : (j : Int) < (m2 : Int) := by omega
            clear hs hmem
            go_wp2_with fail
            refine (get_tb hR.out.tb s HSZ.out).mono ?_
            rintro e w8 ⟨rfl, hB⟩
            rw [HY.out]
            have HR8 := Lib.hid (hR.out.next hB)
            have HS8 := Lib.hid (hS.out.below hB)
            have HHAS := Lib.hid ((HR8.out.like.has s).trans HY.out)
            clear hR hS hB a0
            go_wp2_with (first
              | (at_lookup; refine wpList_look _ rfl _ _ rfl bm k D rfl HR8.out.map s rfl HSZ.out _ _ (HR8.out.like.val s) HHAS.out ?_)
              | fail)
            go_roundw
            case rel => exact ⟨j + 1, by omega, by go_num, HR8, HS8⟩
            case measure => simp [intOf]; omega
          · have hjn : ¬ (j : Int) < (m2 : Int) := by omega
            obtain ⟨wp, hwp⟩ : ∃ wp, wp = wr := ⟨_, rfl⟩
            rw [← hwp] at hR ⊢
            clear hwp hS hlt hj HFIT
            go_wp2_with fail
            refine (get_tb hR.out.tb z hz).mono ?_
            rintro e w8 ⟨rfl, hB⟩
            have HR8 := Lib.hid (hR.out.next hB)
            obtain ⟨y, hy⟩ : ∃ y, (getP L z).2 = y := ⟨_, rfl⟩
            rw [hy]
            have HHAS := Lib.hid ((HR8.out.like.has z).trans hy)
            clear hR hB hy
            go_wp2_with (first
              | (at_lookup; refine wpList_look _ rfl _ _ rfl bm k D rfl HR8.out.map z rfl hz _ _ (HR8.out.like.val z) HHAS.out ?_)
              | fail)
            refine (len_tb HR8.out.tb).mono ?_
            rintro e w9 ⟨rfl, rfl⟩
            have hlen := map_len HR8.out.map HR8.out.like.size
            go_wp2_with fail
            refine (keys_tb HR8.out.tb).mono ?_
            rintro e w10 ⟨kv, rfl, hks, hB⟩
            obtain ⟨KB, kcb, rfl, _⟩ := hks.reads
            rw [HR8.out.tb.good.cnt]
            have HR10 := Lib.hid (HR8.out.next hB)
            have hlen2 := map_len HR10.out.map HR10.out.like.size
            clear hB hks hlen HR8
            go_wp2_with fail
            go_ret
            exact ⟨rfl, HR10.out.below⟩
theorem map_walk (n : Int) (a : Option Addr) (len cap : Nat) (L : List OpV) (z : ByteArray) (w : World) (hn : (Lit.int .u16 n).wf = true) (hrow : RowOf cells32 3 ok32 w a len cap L) (hr : len * 32 ≤ 140737488351232) (hz : z.size ≤ 140737488351232) :
    Calls Try.prog 3 #[.int .u16 n, .slice a len cap, .string z] w fun e w' => TruePost w e w' := by
  have hs := hrow.size
  subst hs
  have hb := bounds_u16 hn
  obtain ⟨k, rfl⟩ := Int.eq_ofNat_of_zero_le hb.1
  exact slotsMap_walk k (by omega) a cap L z w (opsA_of_row hrow) (by omega) (by omega)
end Go.Proofs.Ytakhofmnldlppaa
