/- The contract of a table's Set. Conditions: the table is nil, or one of at most 2048 slots, one of which is empty. -/
import Derived.Test.YtakhofmnldlppaaE
namespace Go.Proofs.Ytakhofmnldlppaa
open Go.RowKit

/-- All blocks but b and g are as they were. -/
structure Near (w w' : World) (b g : Nat) : Prop where
  os : w'.os = w.os
  tape : w'.tape = w.tape
  output : w'.output = w.output
  size : w.heap.size ≤ w'.heap.size
  block : ∀ k, k < w.heap.size → k ≠ b → k ≠ g → w'.heap[k]? = w.heap[k]?
theorem Near.of_below {w w' : World} {b g : Nat} (h : Below w.heap.size w w') : Near w w' b g := ⟨h.os, h.tape, h.output, h.size, fun k hk _ _ => h.block k hk⟩
theorem Near.trans {a w w' : World} {b g : Nat} (h : Near a w b g) (k : Near w w' b g) : Near a w' b g :=
  ⟨k.os.trans h.os, k.tape.trans h.tape, k.output.trans h.output, Nat.le_trans h.size k.size, fun i hi hb hg => (k.block i (Nat.lt_of_lt_of_le hi h.size) hb hg).trans (h.block i hi hb hg)⟩
theorem Near.set {a w : World} {b g : Nat} (h : Near a w b g) (p : Addr) (u : Value) (hp : p.block = b ∨ p.block = g) : Near a (w.setCell p u) b g :=
  h.trans ⟨rfl, rfl, rfl, by simp [World.setCell], fun k _ hb hg => heap_setCell_other w p k u (fun e => by rcases hp with hp | hp <;> omega)⟩
theorem Near.drewN {a w : World} {b g : Nat} (h : Near a w b g) (n : Nat) : Near a (w.drewN n) b g := ⟨h.os, h.tape, h.output, h.size, h.block⟩
theorem Near.below {B : Nat} {w w' : World} {b g : Nat} (h : Near w w' b g) (hB : B ≤ w.heap.size) (hb : B ≤ b) (hg : B ≤ g) : Below B w w' :=
  ⟨h.os, h.tape, h.output, h.size, fun k hk => h.block k (Nat.lt_of_lt_of_le hk hB) (by omega) (by omega)⟩
theorem TabAt.near {w w' : World} {b g b' g' : Nat} {L : List S} {most n : Nat} (h : TabAt w b g L most n) (k : Near w w' b' g') (h1 : b ≠ b') (h2 : b ≠ g') (h3 : g ≠ b') (h4 : g ≠ g') : TabAt w' b g L most n :=
  h.heap (k.block _ h.ltb h1 h2) (k.block _ h.ltg h3 h4)

theorem TabAt.put4 {w : World} {b g : Nat} {L : List S} {most n : Nat} (h : TabAt w b g L most n) {i : Nat} {x : S} (hx : L[i]? = some x) (y : S) :
    TabAt ((((w.setCell ⟨g, i * 4, none⟩ (.bool y.used)).setCell ⟨g, i * 4 + 1, none⟩ (.string y.key)).setCell ⟨g, i * 4 + 2, none⟩ (.int .i64 y.home)).setCell ⟨g, i * 4 + 3, none⟩ (.int .i64 y.v)) b g (L.set i y) most n := by
  have hl := (List.getElem?_eq_some_iff.1 hx).1
  have h1 := h.put (y := ⟨y.used, x.key, x.home, x.v⟩) (u := .bool y.used) hx (show 0 < 4 by decide) rfl
  have h2 := h1.put (i := i) (x := ⟨y.used, x.key, x.home, x.v⟩) (y := ⟨y.used, y.key, x.home, x.v⟩) (u := .string y.key) (by simp [hl]) (show 1 < 4 by decide) rfl
  rw [List.set_set] at h2
  have h3 := h2.put (i := i) (x := ⟨y.used, y.key, x.home, x.v⟩) (y := ⟨y.used, y.key, y.home, x.v⟩) (u := .int .i64 y.home) (by simp [hl]) (show 2 < 4 by decide) rfl
  rw [List.set_set] at h3
  have h4 := h3.put (i := i) (x := ⟨y.used, y.key, y.home, x.v⟩) (y := ⟨y.used, y.key, y.home, y.v⟩) (u := .int .i64 y.v) (by simp [hl]) (show 3 < 4 by decide) rfl
  rw [List.set_set] at h4
  exact h4
def withV (x : S) (v : Int) : S := ⟨x.used, x.key, x.home, v⟩
/-- What Set does to a table's slots and its count. -/
def setP (L : List S) (most n : Nat) (s : ByteArray) (v : Int) : Int × List S × Nat :=
  if (findP L s).2 then (0, L.modify (findP L s).1 (withV · v), n)
  else if n = most then (6, L, n)
  else (0, L.set (findP L s).1 ⟨true, s, hm L s, v⟩, n + 1)
def SetPost (w : World) (b g : Nat) (most : Nat) (p : Int × List S × Nat) (e : Ending) (w' : World) : Prop :=
  e = .returned (.int .i64 p.1) ∧ TabAt w' b g p.2.1 most p.2.2 ∧ Near w w' b g
theorem set_nil (s : ByteArray) (v : Int) (w : World) : Calls Try.prog 11 #[.pointer none, .string s, .int .i64 v] w fun e w' => e = .returned (.int .i64 1) ∧ w = w' := by
  go_enter Try.func11, Try.ntmps11
  go_wp2
  go_ret
  exact ⟨rfl, rfl⟩
theorem modify_set {α : Type} (f : α → α) : ∀ (L : List α) (i : Nat) (x : α), L[i]? = some x → L.modify i f = L.set i (f x) := by
  intro L
  induction L with
  | nil => intro i x h; simp at h
  | cons y r ih =>
    intro i x h
    cases i with
    | zero => simp at h; subst h; simp
    | succ i => simp at h; simp [ih i x h]
theorem drew_keep {w : World} {a : Addr} {v : Value} (h : w.cell? a = some v) : w.drew.cell? a = some v := h
theorem set2_far {w : World} {b c i j k : Nat} {u v x : Value} (hne : c ≠ b) (h : w.cell? ⟨b, i, none⟩ = some x) : ((w.setCell ⟨c, j, none⟩ u).setCell ⟨c, k, none⟩ v).cell? ⟨b, i, none⟩ = some x :=
  (World.cell?_setCell_far _ _ _ _ hne).trans ((World.cell?_setCell_far _ _ _ _ hne).trans h)
theorem home_hm {w : World} {b g : Nat} {L : List S} {most n : Nat} (h : TabAt w b g L most n) (h0 : 1 ≤ L.length) (h1 : L.length ≤ 2048) (s : ByteArray) (hs : s.size ≤ 9223372036854775807) :
    Calls Try.prog 26 #[.pointer (some ⟨b, 0, none⟩), .string s] w fun e w' => e = .returned (.int .i64 (hm L s)) ∧ Below w.heap.size w w' := home_any h h0 h1 s hs
set_option maxHeartbeats 2000000 in
theorem set_any {w : World} {b g : Nat} {L : List S} {most n : Nat} (h : TabAt w b g L most n) (h1 : L.length ≤ 2048) (hn : n ≤ 2048) (hmost : most ≤ 2048) (s : ByteArray) (hs : s.size ≤ 9223372036854775807) (v : Int) (D : Nat) (hfree : Free L (hm L s) D) :
    Calls Try.prog 11 #[.pointer (some ⟨b, 0, none⟩), .string s, .int .i64 v] w fun e w' => SetPost w b g most (setP L most n s v) e w' := by
  have hfind := Lib.hid (find_any h h1 s hs D hfree)
  obtain ⟨x, hx, hxt, hxf⟩ := find_at hfree
  have hil := (List.getElem?_eq_some_iff.1 hx).1
  obtain ⟨p, hp⟩ : ∃ p, findP L s = p := ⟨_, rfl⟩
  have hpost : setP L most n s v = if p.2 then (0, L.set p.1 (withV x v), n) else if n = most then (6, L, n) else (0, L.set p.1 ⟨true, s, hm L s, v⟩, n + 1) := by
    unfold setP
    rw [modify_set _ _ _ _ hx, hp]
  rw [hp] at hx hxt hxf hil
  obtain ⟨i, there⟩ := p
  simp only at hx hxt hxf hil hpost
  have h0 : 1 ≤ L.length := by omega
  have HT := Lib.hid h
  have HX := Lib.hid hx
  have HP := Lib.hid hpost
  have H0 := Lib.hid h0
  have H1 := Lib.hid h1
  obtain ⟨m, hml⟩ : ∃ m, L.length = m := ⟨_, rfl⟩
  rw [hml] at hil h1 h0
  have HM := Lib.hid hml
  have HPP := Lib.hid hp
  clear h hfree hml hx hpost hp
  go_enter Try.func11, Try.ntmps11
  go_wp2_with fail
  refine (hfind.out).mono ?_
  rintro e w1 ⟨rfl, hb⟩
  have HT1 := Lib.hid (HT.out.below hb)
  have HB := Lib.hid hb
  rw [HPP.out]
  obtain ⟨c0, c1, c2⟩ := HT1.out.head
  rw [HM.out] at c0
  have hi0 : (0 : Int) ≤ (i : Int) := by omega
  have hi1 : (i : Int) < (m : Int) := by omega
  clear hb hfind
  cases there with
  | true =>
    obtain ⟨-, -, -, a3⟩ := HT1.out.at HX.out
    have f3 := (HT1.out.free (i * 4 + 3)).2
    clear hxt hxf
    go_wp2_with fail
    go_ret
    refine ⟨by rw [HP.out]; rfl, ?_, ?_⟩
    · rw [HP.out]
      exact HT1.out.put HX.out (by decide) rfl
    · exact (Near.of_below HB.out).set _ _ (.inr rfl)
  | false =>
    by_cases hnm : n = most
    · subst hnm
      go_wp2_with fail
      go_quiet (fail)
      go_wp2
      go_ret
      refine ⟨by rw [HP.out]; simp, ?_, ?_⟩
      · rw [HP.out]
        simp
        exact HT1.out.heap rfl rfl
      · exact (Near.of_below HB.out).drewN _
    · have hne : ((n : Int) == (most : Int)) = false := beq_eq_false_iff_ne.2 (by omega)
      go_wp2_with fail
      go_quiet (fail)
      go_wp2_with fail
      obtain ⟨w2, hw2⟩ : ∃ w2, w2 = w1.drewN nq := ⟨_, rfl⟩
      rw [← hw2]
      have hT2 : TabAt w2 b g L most n := by rw [hw2]; exact HT1.out.heap rfl rfl
      have hN2 : Near w w2 b g := by rw [hw2]; exact (Near.of_below HB.out).drewN _
      have HT2 := Lib.hid hT2
      have HN2 := Lib.hid hN2
      have d0 := HT2.out.head.1
      rw [HM.out] at d0
      have hgb : g ≠ b := hT2.ne.symm
      clear c0 c1 c2 hw2 hT2 hN2 HT1 hxt hxf hne
      go_region_held3 (fun w' => w'.cell? ⟨b, 0, none⟩ = some (.slice (some ⟨g, 0, none⟩) m m)) (first | (with_reducible assumption) | (with_reducible exact drew_keep (by assumption)) | (with_reducible exact cell_keep b26 (by assumption)) | (with_reducible exact set2_far hgb (set2_far hgb (by assumption))))
        (first | (go_at_call 26; refine (home_hm (HT2.out.heap (w' := w2.drew) rfl rfl) H0.out H1.out s hs).mono ?_; rintro e w5 ⟨rfl, b26⟩; have HT5 := Lib.hid ((HT2.out.heap (w' := w2.drew) rfl rfl).below b26); obtain ⟨q0, q1, q2, q3⟩ := HT5.out.at HX.out; have r0 := (HT5.out.free (i * 4)).2; have r1 := (HT5.out.free (i * 4 + 1)).2; have r2 := (HT5.out.free (i * 4 + 2)).2; have r3 := (HT5.out.free (i * 4 + 3)).2))
      rename_i hHeld
      obtain ⟨w6, hw6⟩ : ∃ w6, w6 = ((((w5.setCell ⟨g, i * 4, none⟩ (.bool true)).setCell ⟨g, i * 4 + 1, none⟩ (.string s)).setCell ⟨g, i * 4 + 2, none⟩ (.int .i64 (hm L s))).setCell ⟨g, i * 4 + 3, none⟩ (.int .i64 v)) := ⟨_, rfl⟩
      have hT6 : TabAt w6 b g (L.set i ⟨true, s, hm L s, v⟩) most n := by rw [hw6]; exact HT5.out.put4 HX.out ⟨true, s, hm L s, v⟩
      have hN6 : Near w w6 b g := by
        rw [hw6]
        exact ((((HN2.out.trans ((Near.of_below (w := w2) ((Below.refl _ _).drew)).trans (Near.of_below b26))).set _ _ (.inr rfl)).set _ _ (.inr rfl)).set _ _ (.inr rfl)).set _ _ (.inr rfl)
      rw [← hw6]
      have HT6 := Lib.hid hT6
      have HN6 := Lib.hid hN6
      have e2 := hT6.head.2.2
      have f2 := (hT6.free 2).1
      have hwn : IntKind.i64.wrap ((n : Int) + 1) = ((n + 1 : Nat) : Int) := by rw [IntWalk.i64_in _ (by omega)]; omega
      clear hT6 hN6 hw6 HT5 HT2 HN2 d0 hgb q0 q1 q2 q3 r0 r1 r2 r3 b26 hHeld
      go_wp2_with fail
      go_ret
      have hp := HP.out
      rw [if_neg (by decide), if_neg hnm] at hp
      have hc := HT6.out.count (n + 1)
      rw [show (((n + 1 : Nat)) : Int) = (n : Int) + 1 by omega] at hc
      exact ⟨by rw [hp]; rfl, by rw [hp]; exact hc, HN6.out.set _ _ (.inl rfl)⟩
end Go.Proofs.Ytakhofmnldlppaa
