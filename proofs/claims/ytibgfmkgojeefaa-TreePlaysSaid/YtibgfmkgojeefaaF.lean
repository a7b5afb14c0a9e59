/- The contract of a walk's closure. Conditions: both trees are ours; the captured variables lie in five blocks above them. -/
import Derived.Test.YtibgfmkgojeefaaD
import Derived.OneCell
namespace Go.Proofs.Ytibgfmkgojeefaa
open Go.RowKit

/-- What a walk below node i finds (d levels to go), and how many nodes it looks at. -/
def dn (a b : Nat → Nat) : Nat → Nat → List Nat × Nat
  | 0, i => if nd a i = nd b i then ([], 1) else ([i - 64], 1)
  | d + 1, i => if nd a i = nd b i then ([], 1) else ((dn a b d (2 * i)).1 ++ (dn a b d (2 * i + 1)).1, 1 + (dn a b d (2 * i)).2 + (dn a b d (2 * i + 1)).2)
theorem dn_same (a b : Nat → Nat) (d i : Nat) (h : nd a i = nd b i) : dn a b d i = ([], 1) := by cases d <;> simp [dn, h]
theorem dn_leaf (a b : Nat → Nat) (i : Nat) (h : ¬ nd a i = nd b i) : dn a b 0 i = ([i - 64], 1) := by simp [dn, h]
theorem dn_more (a b : Nat → Nat) (d i : Nat) (h : ¬ nd a i = nd b i) : dn a b (d + 1) i = ((dn a b d (2 * i)).1 ++ (dn a b d (2 * i + 1)).1, 1 + (dn a b d (2 * i)).2 + (dn a b d (2 * i + 1)).2) := by simp [dn, h]
theorem dn_bound (a b : Nat → Nat) : ∀ d i, 1 ≤ (dn a b d i).2 ∧ (dn a b d i).2 + 1 ≤ 2 ^ (d + 1) ∧ (dn a b d i).1.length ≤ 2 ^ d
  | 0, i => by
    by_cases h : nd a i = nd b i
    · rw [dn_same a b 0 i h]; simp
    · rw [dn_leaf a b i h]; simp
  | d + 1, i => by
    have hp : 1 ≤ 2 ^ d := Nat.one_le_two_pow
    have e1 : 2 ^ (d + 1) = 2 * 2 ^ d := by rw [Nat.pow_succ]; omega
    have e2 : 2 ^ (d + 1 + 1) = 4 * 2 ^ d := by rw [Nat.pow_succ, Nat.pow_succ]; omega
    by_cases h : nd a i = nd b i
    · rw [dn_same a b (d + 1) i h, e1, e2]; simp; omega
    · rw [dn_more a b d i h]
      have h1 := dn_bound a b d (2 * i)
      have h2 := dn_bound a b d (2 * i + 1)
      rw [e1] at h1 h2
      rw [e1, e2]
      simp only [List.length_append]
      omega

def pt (b : Nat) : Value := .pointer (some ⟨b, 0, none⟩)
def capt (B : Nat) : Array Value := #[.pointer (some ⟨B + 3, 0, none⟩), .pointer (some ⟨B, 0, none⟩), .pointer (some ⟨B + 1, 0, none⟩), .pointer (some ⟨B + 2, 0, none⟩), .pointer (some ⟨B + 4, 0, none⟩)]
/-- The world within a walk: n nodes are looked at, xs are found. -/
structure WS (w : World) (B bt bu : Nat) (lt lu : Nat → Nat) (n : Nat) (xs : List Nat) : Prop where
  t : Tr w bt lt
  u : Tr w bu lu
  htB : bt < B
  huB : bu < B
  c0 : w.heap[B]? = some (.cells #[.pointer (some ⟨bt, 0, none⟩)] 23 (0, 0))
  c1 : w.heap[B + 1]? = some (.cells #[.pointer (some ⟨bu, 0, none⟩)] 23 (0, 0))
  c2 : ∃ v, w.heap[B + 2]? = some (.cells #[v] 29 (0, 0)) ∧ w.ownsRow (B + 5) 3 1 v xs.length (xs.map (fun k : Nat => Value.int .i64 k))
  c3 : w.heap[B + 3]? = some (.cells #[.int .i64 n] 3 (0, 0))
  c4 : w.heap[B + 4]? = some (.cells #[.func (.func 25) #[] (capt B)] 55 (0, 0))
def DownPost (w : World) (B bt bu : Nat) (lt lu : Nat → Nat) (n : Nat) (xs : List Nat) (e : Ending) (w' : World) : Prop := e = .returned (.tuple #[]) ∧ WS w' B bt bu lt lu n xs ∧ Below B w w'

theorem WS.drew {w : World} {B bt bu : Nat} {lt lu : Nat → Nat} {n : Nat} {xs : List Nat} (h : WS w B bt bu lt lu n xs) : WS w.drew B bt bu lt lu n xs :=
  ⟨h.t.heap rfl, h.u.heap rfl, h.htB, h.huB, h.c0, h.c1, h.c2, h.c3, h.c4⟩
theorem WS.look {w : World} {B bt bu : Nat} {lt lu : Nat → Nat} {n : Nat} {xs : List Nat} (h : WS w B bt bu lt lu n xs) :
    WS (w.setCell ⟨B + 3, 0, none⟩ (.int .i64 ((n : Int) + 1))) B bt bu lt lu (n + 1) xs := by
  have hs : ∀ k, k ≠ B + 3 → (w.setCell ⟨B + 3, 0, none⟩ (.int .i64 ((n : Int) + 1))).heap[k]? = w.heap[k]? := fun k hk => Below.heap_setCell _ _ _ _ hk
  obtain ⟨v, h2, hown⟩ := h.c2
  have a1 := h.htB
  have a2 := h.huB
  refine ⟨h.t.heap (hs _ (by omega)), h.u.heap (hs _ (by omega)), a1, a2, (hs _ (by omega)).trans h.c0, (hs _ (by omega)).trans h.c1, ⟨v, (hs _ (by omega)).trans h2, ownsRow_setCell_below hown (show B + 3 < B + 5 by omega) _⟩, ?_, (hs _ (by omega)).trans h.c4⟩
  have := one_setCell h.c3 (u := .int .i64 ((n : Int) + 1))
  rw [this]
  rfl
theorem info3 : (Try.prog.info? 3).map (fun i => (i.zero, i.size, i.bytes)) = some (some (.int .i64 0), 1, 8) := by kernel_rfl

theorem dn_pos {d i : Nat} (h : 64 ≤ i * 2 ^ (d + 1)) (h' : (i + 1) * 2 ^ (d + 1) ≤ 128) : 1 ≤ i ∧ i < 64 := by
  have e1 : 2 ^ (d + 1) = 2 * 2 ^ d := by rw [Nat.pow_succ]; omega
  have hp : 1 ≤ 2 ^ d := Nat.one_le_two_pow
  constructor
  · rcases Nat.eq_zero_or_pos i with rfl | h0
    · omega
    · exact h0
  · have : (i + 1) * 2 ≤ (i + 1) * 2 ^ (d + 1) := Nat.mul_le_mul_left _ (by omega)
    omega
theorem dn_left {d i : Nat} (h : 64 ≤ i * 2 ^ (d + 1)) (h' : (i + 1) * 2 ^ (d + 1) ≤ 128) : (64 ≤ 2 * i * 2 ^ d ∧ (2 * i + 1) * 2 ^ d ≤ 128) ∧ 64 ≤ (2 * i + 1) * 2 ^ d ∧ (2 * i + 1 + 1) * 2 ^ d ≤ 128 := by
  have e1 : i * 2 ^ (d + 1) = 2 * i * 2 ^ d := by rw [Nat.pow_succ, Nat.mul_comm (2 ^ d) 2, ← Nat.mul_assoc, Nat.mul_comm i 2]
  have e2 : (i + 1) * 2 ^ (d + 1) = (2 * i + 1 + 1) * 2 ^ d := by rw [Nat.pow_succ, Nat.mul_comm (2 ^ d) 2, ← Nat.mul_assoc, show (i + 1) * 2 = 2 * i + 1 + 1 by omega]
  have e3 : 2 * i * 2 ^ d ≤ (2 * i + 1) * 2 ^ d := Nat.mul_le_mul_right _ (by omega)
  have e4 : (2 * i + 1) * 2 ^ d ≤ (2 * i + 1 + 1) * 2 ^ d := Nat.mul_le_mul_right _ (by omega)
  omega

theorem WS.cells {w : World} {B bt bu : Nat} {lt lu : Nat → Nat} {n : Nat} {xs : List Nat} (h : WS w B bt bu lt lu n xs) :
    w.cell? ⟨B, 0, none⟩ = some (.pointer (some ⟨bt, 0, none⟩)) ∧ w.cell? ⟨B + 1, 0, none⟩ = some (.pointer (some ⟨bu, 0, none⟩)) ∧
    w.cell? ⟨B + 3, 0, none⟩ = some (.int .i64 n) ∧ w.frozen? ⟨B + 3, 0, none⟩ = false ∧ w.cell? ⟨B + 4, 0, none⟩ = some (.func (.func 25) #[] (capt B)) ∧ w.frozen? ⟨B + 2, 0, none⟩ = false :=
  ⟨cell_of_one h.c0, cell_of_one h.c1, cell_of_one h.c3, free_of_one h.c3, cell_of_one h.c4, by obtain ⟨v, h2, _⟩ := h.c2; exact free_of_one h2⟩

set_option maxRecDepth 100000 in
set_option maxHeartbeats 1000000 in
theorem down_same {w : World} {B bt bu : Nat} {lt lu : Nat → Nat} {n : Nat} {xs : List Nat} (h : WS w B bt bu lt lu n xs) (i : Nat) (h0 : 1 ≤ i) (h1 : i < 128) (hn : n < 1000) (he : nd lt i = nd lu i) :
    Calls Try.prog 25 #[.int .i64 i, .pointer (some ⟨B + 3, 0, none⟩), .pointer (some ⟨B, 0, none⟩), .pointer (some ⟨B + 1, 0, none⟩), .pointer (some ⟨B + 2, 0, none⟩), .pointer (some ⟨B + 4, 0, none⟩)] w
      fun e w' => DownPost w B bt bu lt lu (n + 1) xs e w' := by
  have HL := Lib.hid h.look.drew
  have hw1 := h.look
  obtain ⟨-, -, c3, f3, -, -⟩ := h.cells
  obtain ⟨k0, k1, -, -, -, -⟩ := hw1.cells
  have kt := (hw1.t.node h0 h1).1
  have ku := (hw1.u.node h0 h1).1
  rw [he] at kt
  have hb := Lib.hid ((Below.refl B w).setCell (p := ⟨B + 3, 0, none⟩) (by show B ≤ B + 3; omega) (.int .i64 ((n : Int) + 1))).drew
  have i0 : (0 : Int) ≤ (i : Int) := by omega
  have i1 : (i : Int) < 128 := by omega
  have hee : (((nd lu i : Nat) : Int) == (nd lu i : Nat)) = true := by rw [beq_iff_eq]
  clear h h0 h1 hw1 he
  go_enter Try.func25, Try.ntmps25
  go_wp2_with fail
  go_region
  go_wp2_with fail
  go_end0
  exact ⟨rfl, HL.out, hb.out⟩

theorem cell_new {W : World} {n : Nat} (h : W.heap.size = n) (cs : Array Value) (t : TypeId) (j : Nat) : (W.alloc (.cells cs t)).cell? ⟨n, j, none⟩ = cs[j]? := by
  subst h
  rw [cell_of_row _ _ j cs t (0, 0) (heap_alloc_new W _)]
theorem size_setCell (W : World) (p : Addr) (u : Value) : (W.setCell p u).heap.size = W.heap.size := by simp [World.setCell]
theorem WS.push {w : World} {B bt bu : Nat} {lt lu : Nat → Nat} {n : Nat} {xs : List Nat} (h : WS w B bt bu lt lu n xs) {v v' : Value} {w1 : World} {x : Nat}
    (h2 : w.heap[B + 2]? = some (.cells #[v] 29 (0, 0))) (hown0 : w.ownsRow (B + 5) 3 1 v xs.length (xs.map (fun k : Nat => Value.int .i64 k)))
    (hown : w1.ownsRow (B + 5) 3 1 v' (xs.length + 1) (xs.map (fun k : Nat => Value.int .i64 k) ++ [.int .i64 x])) (hg : w.grownBy w1 v.ownBlock) (hsz : B + 5 ≤ w.heap.size) :
    WS (w1.setCell ⟨B + 2, 0, none⟩ v') B bt bu lt lu n (xs ++ [x]) ∧ Below B w (w1.setCell ⟨B + 2, 0, none⟩ v') := by
  have hb : Below (B + 5) w w1 := (Below.refl _ w).grown hg hsz (fun q hq => (hown0.lt q hq).1)
  have hs : ∀ k, k < B + 5 → k ≠ B + 2 → (w1.setCell ⟨B + 2, 0, none⟩ v').heap[k]? = w.heap[k]? := fun k hk hne => (Below.heap_setCell _ _ _ _ hne).trans (hb.block k hk)
  have a1 := h.htB
  have a2 := h.huB
  refine ⟨⟨h.t.heap (hs _ (by omega) (by omega)), h.u.heap (hs _ (by omega) (by omega)), a1, a2, (hs _ (by omega) (by omega)).trans h.c0, (hs _ (by omega) (by omega)).trans h.c1, ⟨v', ?_, ?_⟩, (hs _ (by omega) (by omega)).trans h.c3, (hs _ (by omega) (by omega)).trans h.c4⟩, (hb.mono (by omega)).setCell (by show B ≤ B + 2; omega) _⟩
  · exact one_setCell ((hb.block _ (by omega)).trans h2)
  · rw [List.length_append, List.map_append]
    exact ownsRow_setCell_below hown (show B + 2 < B + 5 by omega) _

set_option maxRecDepth 100000 in
set_option maxHeartbeats 1000000 in
theorem down_leaf {w : World} {B bt bu : Nat} {lt lu : Nat → Nat} {n : Nat} {xs : List Nat} (h : WS w B bt bu lt lu n xs) (hsz : B + 5 ≤ w.heap.size) (i : Nat) (h0 : 64 ≤ i) (h1 : i < 128) (hn : n < 1000) (hx : xs.length < 1000) (he : ¬ nd lt i = nd lu i) :
    Calls Try.prog 25 #[.int .i64 i, .pointer (some ⟨B + 3, 0, none⟩), .pointer (some ⟨B, 0, none⟩), .pointer (some ⟨B + 1, 0, none⟩), .pointer (some ⟨B + 2, 0, none⟩), .pointer (some ⟨B + 4, 0, none⟩)] w
      fun e w' => DownPost w B bt bu lt lu (n + 1) (xs ++ [i - 64]) e w' := by
  obtain ⟨i3, hi, hz0, hz1, hz2⟩ := info_parts info3
  have hw1 := h.look
  have HL := Lib.hid hw1.drew
  obtain ⟨-, -, c3, f3, -, -⟩ := h.cells
  obtain ⟨k0, k1, -, -, -, f2⟩ := hw1.cells
  obtain ⟨v, hv, hown⟩ := hw1.c2
  have k2 := cell_of_one hv
  have HV := Lib.hid hv
  have kt := (hw1.t.node (k := i) (by omega) h1).1
  have ku := (hw1.u.node (k := i) (by omega) h1).1
  have hb := Lib.hid ((Below.refl B w).setCell (p := ⟨B + 3, 0, none⟩) (by show B ≤ B + 3; omega) (.int .i64 ((n : Int) + 1))).drew
  have hsz1 : B + 5 ≤ (w.setCell ⟨B + 3, 0, none⟩ (.int .i64 ((n : Int) + 1))).drew.heap.size := by
    show B + 5 ≤ (w.setCell ⟨B + 3, 0, none⟩ (.int .i64 ((n : Int) + 1))).heap.size
    simpa [World.setCell] using hsz
  have HSZ := Lib.hid hsz1
  have i0 : (0 : Int) ≤ (i : Int) := by omega
  have i1 : (i : Int) < 128 := by omega
  have i2 : (64 : Int) ≤ (i : Int) := by omega
  have hee : (((nd lt i : Nat) : Int) == (nd lu i : Nat)) = false := beq_eq_false_iff_ne.2 (by omega)
  have hown1 : (w.setCell ⟨B + 3, 0, none⟩ (.int .i64 ((n : Int) + 1))).drew.ownsRow (B + 5) 3 1 v xs.length (xs.map (fun k : Nat => Value.int .i64 k)) := hown
  have hsub : (i : Int) - 64 = ((i - 64 : Nat) : Int) := by omega
  clear h hw1 he hv hsz hsz1
  go_enter Try.func25, Try.ntmps25
  go_wp2_with fail
  go_region
  go_wp2_with (at_builtin; refine wpList_append_own _ rfl _ _ 29 rfl (B + 5) 3 i3 (.int .i64 0) 1 8 Try.underlying29 hi hz0 hz1 hz2 rfl (by decide) _ _ _ rfl (hown1.alloc _) ⟨w.heap.size, 0, none⟩ 1 1 [.int .i64 ((i - 64 : Nat) : Int)] rfl rfl ?c1 ?c2 ?c3 ?c4 ?c5 ?_)
  case c1 =>
    intro j u hj
    match j, hj with
    | 0, hj =>
      simp only [List.getElem?_cons_zero, Option.some.injEq] at hj
      subst hj
      exact cell_new (size_setCell w ⟨B + 3, 0, none⟩ (.int .i64 ((n : Int) + 1))) #[.int .i64 ((i - 64 : Nat) : Int)] 3 0
  case c2 => intro u hu; simp only [List.mem_singleton] at hu; subst hu; rfl
  case c3 => unfold maxLen; omega
  case c4 => omega
  case c5 => have h := HSZ.out; simp [World.setCell] at h ⊢; omega
  intro v' w1 hown' hgrow _
  obtain ⟨g, cap, rfl⟩ : ∃ g cap, v' = .slice (some ⟨g, 0, none⟩) (xs.length + 1) cap := by
    rcases hown'.2 with ⟨_, h0⟩ | ⟨g, cap, cur, h1, _⟩
    · omega
    · exact ⟨g, cap, h1⟩
  have hga : (w.setCell ⟨B + 3, 0, none⟩ (.int .i64 ((n : Int) + 1))).drew.grownBy w1 v.ownBlock :=
    grown_trans (World.grownBy_alloc (w.setCell ⟨B + 3, 0, none⟩ (.int .i64 ((n : Int) + 1))).drew (.cells #[.int .i64 ((i - 64 : Nat) : Int)] 3) v.ownBlock) hgrow
  have hp := HL.out.push HV.out hown1 hown' hga HSZ.out
  have hf : w1.frozen? ⟨B + 2, 0, none⟩ = false := by
    have hb : Below (B + 5) _ w1 := (Below.refl _ _).grown hga HSZ.out (fun q hq => (hown1.lt q hq).1)
    exact (hb.frozen (p := ⟨B + 2, 0, none⟩) (by show B + 2 < B + 5; omega)).trans f2
  have hcl : w1.cell? ⟨B + 2, 0, none⟩ = some v := by
    have hb : Below (B + 5) _ w1 := (Below.refl _ _).grown hga HSZ.out (fun q hq => (hown1.lt q hq).1)
    exact (hb.cell (p := ⟨B + 2, 0, none⟩) (by show B + 2 < B + 5; omega)).trans k2
  have HP := Lib.hid hp
  clear hown hown' hgrow hga hp hown1 k0 k1 kt ku k2
  go_wp2_with fail
  go_end0
  exact ⟨rfl, HP.out.1, hb.out.trans HP.out.2⟩

set_option maxRecDepth 100000 in
set_option maxHeartbeats 1000000 in
theorem down_more {w : World} {B bt bu : Nat} {lt lu : Nat → Nat} {n : Nat} {xs : List Nat} (h : WS w B bt bu lt lu n xs) (i : Nat) (h0 : 1 ≤ i) (h1 : i < 64) (hn : n < 1000) (he : ¬ nd lt i = nd lu i) (n1 n2 : Nat) (xs1 xs2 : List Nat)
    (hl : ∀ w0, WS w0 B bt bu lt lu (n + 1) xs → Below B w w0 → w.heap.size ≤ w0.heap.size → Calls Try.prog 25 #[.int .i64 (2 * (i : Int)), .pointer (some ⟨B + 3, 0, none⟩), .pointer (some ⟨B, 0, none⟩), .pointer (some ⟨B + 1, 0, none⟩), .pointer (some ⟨B + 2, 0, none⟩), .pointer (some ⟨B + 4, 0, none⟩)] w0
      fun e w' => DownPost w0 B bt bu lt lu n1 xs1 e w')
    (hr : ∀ w0, WS w0 B bt bu lt lu n1 xs1 → Below B w w0 → w.heap.size ≤ w0.heap.size → Calls Try.prog 25 #[.int .i64 (2 * (i : Int) + 1), .pointer (some ⟨B + 3, 0, none⟩), .pointer (some ⟨B, 0, none⟩), .pointer (some ⟨B + 1, 0, none⟩), .pointer (some ⟨B + 2, 0, none⟩), .pointer (some ⟨B + 4, 0, none⟩)] w0
      fun e w' => DownPost w0 B bt bu lt lu n2 xs2 e w') :
    Calls Try.prog 25 #[.int .i64 i, .pointer (some ⟨B + 3, 0, none⟩), .pointer (some ⟨B, 0, none⟩), .pointer (some ⟨B + 1, 0, none⟩), .pointer (some ⟨B + 2, 0, none⟩), .pointer (some ⟨B + 4, 0, none⟩)] w
      fun e w' => DownPost w B bt bu lt lu n2 xs2 e w' := by
  have hw1 := h.look
  obtain ⟨-, -, c3, f3, -, -⟩ := h.cells
  obtain ⟨k0, k1, -, -, k4, -⟩ := hw1.cells
  have kt := (hw1.t.node (k := i) (by omega) (by omega)).1
  have ku := (hw1.u.node (k := i) (by omega) (by omega)).1
  have hb := Lib.hid ((Below.refl B w).setCell (p := ⟨B + 3, 0, none⟩) (by show B ≤ B + 3; omega) (.int .i64 ((n : Int) + 1))).drew
  have HC := Lib.hid (hl _ hw1.drew hb.out hb.out.size)
  have HR := Lib.hid hr
  have i0 : (0 : Int) ≤ (i : Int) := by omega
  have i1 : (i : Int) < 128 := by omega
  have i2 : (i : Int) < 64 := by omega
  have hee : (((nd lt i : Nat) : Int) == (nd lu i : Nat)) = false := beq_eq_false_iff_ne.2 (by omega)
  clear h hw1 he hl hr
  go_enter Try.func25, Try.ntmps25
  go_wp2_with fail
  go_region
  go_wp2_with fail
  refine (HC.out).mono ?_
  rintro e w2 ⟨rfl, hS2, hb2⟩
  have k42 := hS2.cells.2.2.2.2.1
  have HB := Lib.hid (hb.out.trans hb2)
  have HC2 := Lib.hid (HR.out _ hS2 HB.out HB.out.size)
  clear hS2 hb2 HR HC hb
  go_wp2_with fail
  refine (HC2.out).mono ?_
  rintro e w3 ⟨rfl, hS3, hb3⟩
  have H3 := Lib.hid hS3
  have HB3 := Lib.hid (HB.out.trans hb3)
  clear hS3 hb3 HC2
  go_wp2_with fail
  go_end0
  exact ⟨rfl, H3.out, HB3.out⟩
end Go.Proofs.Ytibgfmkgojeefaa
