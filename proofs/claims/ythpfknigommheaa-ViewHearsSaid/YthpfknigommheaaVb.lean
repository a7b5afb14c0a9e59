/- Rows of members and of news in memory; the contract of slices.Clone. Conditions: the rows lie as Go's slices do. -/
import Derived.Test.YthpfknigommheaaVa
import Derived.Lib.SliceRun
import Derived.Lib.Hide
import Derived.Deep.RegionWith
import Derived.BigRegion
import Derived.Deep.QuietTactic
import Derived.BigQuiet
import Derived.IntWalk
import Derived.Deep.DeepCutAuto
import Derived.Deep.CutBlock
import Derived.Deep.RegionLaw
import Derived.Deep.AppendLies
namespace Go.Proofs.Ythpfknigommheaa
open Go.RowKit PViewTells Go.Proofs.YthpfknigommheaaW.PrintWords

/-- The slice at A reads as the members xs. -/
def MemR (w : World) (A : Option Addr) (xs : List S33) : Prop := ∀ (i : Nat) (x : S33), xs[i]? = some x → ∃ g o, A = some ⟨g, o, none⟩ ∧ w.cell? ⟨g, o + i * 2, none⟩ = some (.int .u8 x.f0) ∧ w.cell? ⟨g, o + i * 2 + 1, none⟩ = some (.int .u32 x.f1)
def NewsR (w : World) (A : Option Addr) (xs : List S36) : Prop := ∀ (i : Nat) (x : S36), xs[i]? = some x → ∃ g o, A = some ⟨g, o, none⟩ ∧ w.cell? ⟨g, o + i * 3, none⟩ = some (.int .u8 x.f0) ∧ w.cell? ⟨g, o + i * 3 + 1, none⟩ = some (.int .u8 x.f1.f0) ∧ w.cell? ⟨g, o + i * 3 + 2, none⟩ = some (.int .u32 x.f1.f1)
theorem MemR.below {w w' : World} {A : Option Addr} {xs : List S33} (h : MemR w A xs) (hb : Below w.heap.size w w') : MemR w' A xs := fun i x hx => by
  obtain ⟨g, o, e, h0, h1⟩ := h i x hx
  exact ⟨g, o, e, (hb.cell (World.block_lt_of_cell? w _ h0)).trans h0, (hb.cell (World.block_lt_of_cell? w _ h1)).trans h1⟩
theorem NewsR.below {w w' : World} {A : Option Addr} {xs : List S36} (h : NewsR w A xs) (hb : Below w.heap.size w w') : NewsR w' A xs := fun i x hx => by
  obtain ⟨g, o, e, h0, h1, h2⟩ := h i x hx
  exact ⟨g, o, e, (hb.cell (World.block_lt_of_cell? w _ h0)).trans h0, (hb.cell (World.block_lt_of_cell? w _ h1)).trans h1, (hb.cell (World.block_lt_of_cell? w _ h2)).trans h2⟩
theorem add_at {b o n : Nat} : (⟨b, o, none⟩ : Addr).add n = ⟨b, o + n, none⟩ := by
  simp only [Addr.add]
  split
  · rename_i h; rw [h]; rfl
  · rfl
theorem MemR.kc {w : World} {A : Option Addr} {xs : List S33} (h : MemR w A xs) (hl : xs.length ≤ 9223372036854775807) : Kd.C k33 w A xs.length xs := by
  refine ⟨rfl, hl, fun h0 => ?_⟩
  obtain ⟨y, hy⟩ : ∃ y, xs[0]? = some y := ⟨_, List.getElem?_eq_getElem h0⟩
  obtain ⟨g, o, rfl, _⟩ := h 0 y hy
  refine ⟨_, rfl, fun j p hj => ⟨[.int .u8 p.f0, .int .u32 p.f1], rfl, k33_mk w p, fun i u hu => ?_⟩⟩
  obtain ⟨g', o', e, c0, c1⟩ := h j p hj
  cases e
  rw [add_at]
  match i, hu with
  | 0, hu => simp at hu; subst hu; exact c0
  | 1, hu => simp at hu; subst hu; rw [← Nat.add_assoc]; exact c1
theorem NewsR.kc {w : World} {A : Option Addr} {xs : List S36} (h : NewsR w A xs) (hl : xs.length ≤ 9223372036854775807) : Kd.C k36 w A xs.length xs := by
  refine ⟨rfl, hl, fun h0 => ?_⟩
  obtain ⟨y, hy⟩ : ∃ y, xs[0]? = some y := ⟨_, List.getElem?_eq_getElem h0⟩
  obtain ⟨g, o, rfl, _⟩ := h 0 y hy
  refine ⟨_, rfl, fun j p hj => ⟨[.int .u8 p.f0, .int .u8 p.f1.f0, .int .u32 p.f1.f1], rfl, k36_mk w p, fun i u hu => ?_⟩⟩
  obtain ⟨g', o', e, c0, c1, c2⟩ := h j p hj
  cases e
  rw [add_at]
  match i, hu with
  | 0, hu => simp at hu; subst hu; exact c0
  | 1, hu => simp at hu; subst hu; rw [← Nat.add_assoc]; exact c1
  | 2, hu => simp at hu; subst hu; rw [← Nat.add_assoc]; exact c2
/-- A row of one's own. -/
def MemO (w : World) (B : Nat) (v : Value) (xs : List S33) : Prop := w.ownsRow B 33 2 v xs.length (memC xs)
def NewsO (w : World) (B : Nat) (v : Value) (xs : List S36) : Prop := w.ownsRow B 36 3 v xs.length (newsC xs)
theorem own_get {w : World} {B e s n : Nat} {v : Value} {cs : List Value} (h : w.ownsRow B e s v n cs) (hl : cs.length = n * s) : ∃ A cap, v = .slice A n cap ∧ n ≤ cap ∧ ∀ j u, cs[j]? = some u → ∃ g, A = some ⟨g, 0, none⟩ ∧ B ≤ g ∧ w.cell? ⟨g, j, none⟩ = some u := by
  rcases h.2 with ⟨rfl, h0⟩ | ⟨g, cap, cur, rfl, h1, h2, h3, h4, h5, h6⟩
  · subst h0
    refine ⟨none, 0, rfl, Nat.le_refl _, fun j u hu => ?_⟩
    have := (List.getElem?_eq_some_iff.1 hu).1
    omega
  · refine ⟨_, cap, rfl, ?_, fun j u hu => ⟨g, rfl, h1, ?_⟩⟩
    · first | exact h3 | exact h4 | omega
    · rw [cell_of_row w g j _ _ _ h2]
      have hlt : j < cs.length := (List.getElem?_eq_some_iff.1 hu).1
      have : (cur.toList.take (n * s))[j]? = some u := by rw [h6]; exact hu
      rw [List.getElem?_take, if_pos (by omega)] at this
      rw [← this]
      simp
theorem MemO.reads {w : World} {B : Nat} {v : Value} {xs : List S33} (h : MemO w B v xs) : ∃ A cap, v = .slice A xs.length cap ∧ xs.length ≤ cap ∧ MemR w A xs := by
  obtain ⟨A, cap, rfl, hc, hg⟩ := own_get h (flat_len len33 xs)
  refine ⟨A, cap, rfl, hc, fun i x hx => ?_⟩
  have g0 := flat_get len33 xs i 0 x hx (by decide)
  have g1 := flat_get len33 xs i 1 x hx (by decide)
  obtain ⟨g, e, _, c0⟩ := hg (i * 2 + 0) _ g0
  obtain ⟨g', e', _, c1⟩ := hg (i * 2 + 1) _ g1
  rw [e] at e'
  cases e'
  exact ⟨g, 0, e, by rw [Nat.zero_add]; exact c0, by rw [Nat.zero_add]; exact c1⟩
theorem NewsO.reads {w : World} {B : Nat} {v : Value} {xs : List S36} (h : NewsO w B v xs) : ∃ A cap, v = .slice A xs.length cap ∧ xs.length ≤ cap ∧ NewsR w A xs := by
  obtain ⟨A, cap, rfl, hc, hg⟩ := own_get h (flat_len len36 xs)
  refine ⟨A, cap, rfl, hc, fun i x hx => ?_⟩
  have g0 := flat_get len36 xs i 0 x hx (by decide)
  have g1 := flat_get len36 xs i 1 x hx (by decide)
  have g2 := flat_get len36 xs i 2 x hx (by decide)
  obtain ⟨g, e, _, c0⟩ := hg (i * 3 + 0) _ g0
  obtain ⟨g', e', _, c1⟩ := hg (i * 3 + 1) _ g1
  obtain ⟨g'', e'', _, c2⟩ := hg (i * 3 + 2) _ g2
  rw [e] at e' e''
  cases e'
  cases e''
  exact ⟨g, 0, e, by rw [Nat.zero_add]; exact c0, by rw [Nat.zero_add]; exact c1, by rw [Nat.zero_add]; exact c2⟩
theorem own_below {w w' : World} {B e size n : Nat} {v : Value} {xs : List Value} (h : w.ownsRow B e size v n xs) (hb : Below w.heap.size w w') : w'.ownsRow B e size v n xs := by
  refine ⟨h.1, ?_⟩
  rcases h.2 with h1 | ⟨g, cap, cur, a, b, c, d⟩
  · exact .inl h1
  · exact .inr ⟨g, cap, cur, a, b, (hb.block g (lt_of_block c)).trans c, d⟩
theorem own_base {w : World} {base base' : Nat} {e : TypeId} {size : Nat} {v : Value} {n : Nat} {xs : List Value} (h : w.ownsRow base e size v n xs) (hb : base' ≤ base) : w.ownsRow base' e size v n xs := by
  refine ⟨h.1, ?_⟩
  rcases h.2 with h1 | ⟨g, cap, cur, a, b, c⟩
  · exact .inl h1
  · exact .inr ⟨g, cap, cur, a, Nat.le_trans hb b, c⟩
theorem memC_one (xs : List S33) : ∀ u ∈ memC xs, u.oneCell' = true := by
  intro u hu
  obtain ⟨x, _, hx⟩ := List.mem_flatMap.1 hu
  simp [cells33] at hx
  rcases hx with rfl | rfl <;> rfl
/-- The cells of a row of members, from an address on. -/
theorem MemR.cells {w : World} {g o : Nat} {xs : List S33} (h : MemR w (some ⟨g, o, none⟩) xs) : ∀ (j : Nat) (u : Value), (memC xs)[j]? = some u → w.cell? ⟨g, o + j, none⟩ = some u := by
  intro j u hu
  have hlt : j < xs.length * 2 := by rw [← flat_len len33 xs]; exact (List.getElem?_eq_some_iff.1 hu).1
  obtain ⟨x, hx⟩ : ∃ x, xs[j / 2]? = some x := ⟨_, List.getElem?_eq_getElem (by omega)⟩
  have hg := flat_get len33 xs (j / 2) (j % 2) x hx (Nat.mod_lt _ (by decide))
  rw [show j / 2 * 2 + j % 2 = j by omega] at hg
  rw [show memC xs = xs.flatMap cells33 from rfl, hg] at hu
  obtain ⟨g', o', e, c0, c1⟩ := h (j / 2) x hx
  cases e
  rcases Nat.mod_two_eq_zero_or_one j with e | e
  · rw [e] at hu
    simp [cells33] at hu
    subst hu
    rw [show o + j = o + j / 2 * 2 by omega]; exact c0
  · rw [e] at hu
    simp [cells33] at hu
    subst hu
    rw [show o + j = o + j / 2 * 2 + 1 by omega]; exact c1
def MemPost (w : World) (xs : List S33) (e : Ending) (w' : World) : Prop := ∃ v, e = .returned v ∧ MemO w' w.heap.size v xs ∧ Below w.heap.size w w'

theorem clone_nil (w : World) : Calls Try.prog 24 #[.slice none 0 0] w fun e w' => MemPost w [] e w' := by
  have heq := fun (wx : World) => Lib.run_eql_slice_nil (P := Try.prog) wx 22 33 none 0 0 0 0 Try.underlying22
  go_enter Try.func24, Try.ntmps24
  go_wp2
  go_ret
  exact ⟨_, rfl, World.ownsRow_nil _ _ _ _, Below.refl _ _⟩
set_option maxHeartbeats 1000000 in
theorem clone_some (ad : Addr) (c : Nat) (xs : List S33) (w : World) (h : ∀ (j : Nat) (u : Value), (memC xs)[j]? = some u → w.cell? (ad.add j) = some u) (h0 : xs.length ≤ 1000) :
    Calls Try.prog 24 #[.slice (some ad) xs.length c] w fun e w' => MemPost w xs e w' := by
  obtain ⟨i0, hi, hzz⟩ := Option.map_eq_some_iff.1 info33
  simp only [Prod.mk.injEq] at hzz
  obtain ⟨hz0, hz1, hz2⟩ := hzz
  have heq := fun (wx : World) => Lib.run_eql_slice_nil (P := Try.prog) wx 22 33 (some ad) xs.length c 0 0 Try.underlying22
  have hown : (w.alloc (.cells #[] 33)).ownsRow w.heap.size 33 2 (.slice (some ⟨w.heap.size, 0, none⟩) 0 0) 0 [] := World.ownsRow_lit w #[] 0 (Nat.le_refl _) (Nat.zero_le _) rfl
  have H := Lib.hid h
  clear h
  go_enter Try.func24, Try.ntmps24
  go_wp2_with (first
    | (at_builtin; refine wpList_append_own _ rfl _ _ 22 rfl w.heap.size 33 i0 (.agg #[.int .u8 0, .int .u32 0]) 2 8 Try.underlying22 hi hz0 hz1 hz2 rfl (by decide) _ _ _ rfl hown ad xs.length c (memC xs) rfl (flat_len len33 xs) ?c1 (memC_one xs) ?c3 ?c4 ?c5 ?_))
  case c1 =>
    intro j u hj
    have h1 := H.out j u hj
    exact (World.cell?_alloc_lt w _ _ (World.block_lt_of_cell? w _ h1)).trans h1
  case c3 => unfold maxLen; omega
  case c4 => omega
  case c5 => simp
  intro v' w1 hown1 hg1 _
  have hb1 : Below w.heap.size w w1 := ((Below.refl _ _).alloc (Nat.le_refl _) _).grown hg1 (by simp) (fun q hq => (hown.lt q hq).1)
  have hown2 : MemO w1 w.heap.size v' xs := hown1
  have HO := Lib.hid hown2
  have HB := Lib.hid hb1
  clear hown1 hown2 hb1 hg1 hown heq
  go_wp2
  go_ret
  exact ⟨_, rfl, HO.out, HB.out⟩
/-- An argument that is a row of members: nil, or an address at which they lie. -/
structure MemA (w : World) (A : Option Addr) (c : Nat) (xs : List S33) : Prop where
  row : MemR w A xs
  nil : A = none → xs = [] ∧ c = 0
  cap : xs.length ≤ c
theorem MemA.below {w w' : World} {A : Option Addr} {c : Nat} {xs : List S33} (h : MemA w A c xs) (hb : Below w.heap.size w w') : MemA w' A c xs := ⟨h.row.below hb, h.nil, h.cap⟩
structure NewsA (w : World) (A : Option Addr) (c : Nat) (xs : List S36) : Prop where
  row : NewsR w A xs
  cap : xs.length ≤ c
theorem NewsA.below {w w' : World} {A : Option Addr} {c : Nat} {xs : List S36} (h : NewsA w A c xs) (hb : Below w.heap.size w w') : NewsA w' A c xs := ⟨h.row.below hb, h.cap⟩
theorem MemA.at {w : World} {ad : Addr} {c : Nat} {xs : List S33} (h : MemA w (some ad) c xs) : ∀ (j : Nat) (u : Value), (memC xs)[j]? = some u → w.cell? (ad.add j) = some u := by
  intro j u hu
  have hlt : j < xs.length * 2 := by rw [← flat_len len33 xs]; exact (List.getElem?_eq_some_iff.1 hu).1
  obtain ⟨x, hx⟩ : ∃ x, xs[0]? = some x := ⟨_, List.getElem?_eq_getElem (by omega)⟩
  obtain ⟨g, o, e, _⟩ := h.row 0 x hx
  cases e
  rw [add_at]
  exact h.row.cells j u hu
theorem clone_any (A : Option Addr) (c : Nat) (xs : List S33) (w : World) (h : MemA w A c xs) (h0 : xs.length ≤ 1000) :
    Calls Try.prog 24 #[.slice A xs.length c] w fun e w' => MemPost w xs e w' := by
  cases A with
  | none =>
    obtain ⟨rfl, rfl⟩ := h.nil rfl
    exact clone_nil w
  | some ad => exact clone_some ad c xs w h.at h0
end Go.Proofs.Ythpfknigommheaa
