/- The printed contracts, in this text's own words; how arguments read. Conditions: at most 1000 of each. -/
import Derived.Test.YthpfknigommheaaVg
import Derived.WalkKit
import Derived.ProofKit
import Derived.OpenShut
import Derived.ChangeOld
namespace Go.Proofs.Ythpfknigommheaa
open Go.RowKit Go.ChangeShapes Go.WideShapes Go.ChangeAt Go.Deep PViewTells Go.Proofs.YthpfknigommheaaW.PrintWords Go.Proofs.YthpfknigommheaaW.PrintMore

theorem cof33 : Try.prog.cellsOf 33 = 2 := by kernel_rfl
theorem cof36 : Try.prog.cellsOf 36 = 3 := by kernel_rfl
section
variable {H : Type} {enc : TypeId × Value → H} {w : World} {base : Nat} {spare : Nat → Bool} {held : Bool}
theorem shape33 : ∀ n cs x, DataW.trod enc Try.prog w base spare held n 33 cs = some x → ∃ y, cs = cells33 y ∧ ok33 y := by
  intro n cs x h
  obtain ⟨xs, m, _, _, hl, hx, hf⟩ := DataW.trod_struct Try.underlying33 h
  have hl2 : cs.length = 2 := hl.trans cof33
  have hx2 : xs.length = 2 := hx
  match cs, hl2, xs, hx2 with
  | [c0, c1], _, [x0, x1], _ =>
    have h0 := hf 0 _ rfl
    have h1 := hf 1 _ rfl
    obtain ⟨q, e0, _, hq⟩ := DataW.trod_int Try.underlying5 h0
    obtain ⟨r, e1, _, hr⟩ := DataW.trod_int Try.underlying31 h1
    injection e0 with e0
    injection e1 with e1
    subst e0 e1
    exact ⟨⟨q, r⟩, rfl, bounds_u8 hq, bounds_u32 hr⟩
theorem agg_33 {W : World} {base' : Nat} {v : Value} {d : DataW H} {p : List MemPlace} (hv : Value.okWide Try.prog W .any base' 33 v)
    (h : DataW.Trod enc Try.prog w base spare held 33 v d p) : ∃ z : S33, v = .agg #[.int .u8 z.f0, .int .u32 z.f1] ∧ ok33 z := by
  obtain ⟨cs, rfl, hs⟩ := okWide_struct Try.underlying33 hv
  obtain ⟨fuel, hf⟩ := h
  obtain ⟨y, he, hok⟩ := shape33 _ _ _ hf
  refine ⟨y, ?_, hok⟩
  have : cs.toList = cells33 y := he
  rw [show cs = #[.int .u8 y.f0, .int .u32 y.f1] from Array.ext' this]
theorem shape36 : ∀ n cs x, DataW.trod enc Try.prog w base spare held n 36 cs = some x → ∃ y, cs = cells36 y ∧ ok36 y := by
  intro n cs x h
  obtain ⟨xs, m, _, _, hl, hx, hf⟩ := DataW.trod_struct Try.underlying36 h
  have hl2 : cs.length = 3 := hl.trans cof36
  have hx2 : xs.length = 2 := hx
  match cs, hl2, xs, hx2 with
  | [c0, c1, c2], _, [x0, x1], _ =>
    have h0 := hf 0 _ rfl
    have h1 := hf 1 _ rfl
    obtain ⟨q, e0, _, hq⟩ := DataW.trod_int Try.underlying5 h0
    obtain ⟨y, e1, hy⟩ := shape33 _ _ _ h1
    have e1' : List.take (Try.prog.cellsOf 33) [c1, c2] = cells33 y := e1
    clear h1 e1
    rw [cof33] at e1'
    unfold cells33 at e1'
    injection e0 with e0
    injection e1' with e2 e3
    injection e3 with e3
    subst e0 e2 e3
    exact ⟨⟨q, y⟩, rfl, bounds_u8 hq, hy⟩
end
theorem flat_of_reps {α : Type} {f : α → List Value} {C : Nat} (hf : ∀ x, (f x).length = C) : ∀ (l : List α) (cs : List Value), cs.length = l.length * C → (∀ j p, l[j]? = some p → (cs.drop (j * C)).take C = f p) → cs = l.flatMap f
  | [], cs, hl, _ => by
    rw [List.length_nil, Nat.zero_mul] at hl
    rw [List.length_eq_zero_iff.1 hl]; rfl
  | y :: l, cs, hl, h => by
    have h0 := h 0 y rfl
    rw [Nat.zero_mul, List.drop_zero] at h0
    rw [List.flatMap_cons, ← h0, ← flat_of_reps hf l (cs.drop C) (by rw [List.length_drop, hl, List.length_cons, Nat.add_mul]; omega) (fun j p hj => by
      have := h (j + 1) p (by simpa using hj)
      rw [List.drop_drop, show C + j * C = (j + 1) * C by rw [Nat.add_mul]; omega]
      exact this), List.take_append_drop]
theorem newsO_of {w : World} {B : Nat} {ok : Nat → Prop} {v : Value} {xs : List S36} (h : Kd.R k36 36 w B ok v xs) : NewsO w B v xs := by
  obtain ⟨_, inner, ho, hr⟩ := h
  have e : inner = newsC xs := flat_of_reps len36 xs inner hr.1 (fun j p hj => k36_openM (hr.2 j p hj))
  rw [e] at ho
  exact ho
theorem memO_of {w : World} {B : Nat} {ok : Nat → Prop} {v : Value} {xs : List S33} (h : Kd.R k33 33 w B ok v xs) : MemO w B v xs := by
  obtain ⟨_, inner, ho, hr⟩ := h
  have e : inner = memC xs := flat_of_reps len33 xs inner hr.1 (fun j p hj => k33_openM (hr.2 j p hj))
  rw [e] at ho
  exact ho
def BoolPost (w : World) (b : Bool) (e : Ending) (w' : World) : Prop := e = .returned (.bool b) ∧ Below w.heap.size w w'
def U8R (w : World) (v : Value) (l : List Int) : Prop := ∃ A c, v = .slice A l.length c ∧ l.length ≤ c ∧ Kd.C (Kd.int .u8) w A l.length l
theorem U8R.below {w w' : World} {v : Value} {l : List Int} (h : U8R w v l) (hb : Below w.heap.size w w') : U8R w' v l := by
  obtain ⟨A, c, e, hc, h⟩ := h
  exact ⟨A, c, e, hc, Kd.C_below h hb⟩
theorem great_any (A : Option Addr) (c : Nat) (xs : List S33) (A2 : Option Addr) (c2 : Nat) (l : List S36) (w : World) (h : MemA w A c xs) (hl : NewsA w A2 c2 l) (h1 : xs.length ≤ 9223372036854775807) (h2 : l.length ≤ 9223372036854775807) :
    Calls Try.prog 9 #[.slice A xs.length c, .slice A2 l.length c2] w fun e w' => BoolPost w (decide (64 < xs.length ∨ 300 < l.length)) e w' :=
  (tattlerlaw17_great.calls A c xs A2 c2 l _ w (h.row.kc h1) h.cap (hl.row.kc h2) hl.cap (great_f xs l)).mono fun _ _ h => ⟨h.1, h.2.below⟩
theorem newer17_any (a b : S33) (w : World) : Calls Try.prog 17 #[.agg #[.int .u8 a.f0, .int .u32 a.f1], .agg #[.int .u8 b.f0, .int .u32 b.f1]] w fun e w' => BoolPost w (newer a b) e w' :=
  view_Newer.calls _ _ _ _ _ w (newer_f a b)
theorem newer15_any (a b : S33) (w : World) : Calls Try.prog 15 #[.agg #[.int .u8 a.f0, .int .u32 a.f1], .agg #[.int .u8 b.f0, .int .u32 b.f1]] w fun e w' => BoolPost w (newer a b) e w' :=
  tattlerref17_Newer.calls _ _ _ _ _ w (refnewer_f a b)
theorem same13_any (A : Option Addr) (c : Nat) (A2 : Option Addr) (c2 : Nat) (xs : List S33) (w : World) (h : MemR w A xs) (hc : xs.length ≤ c) (h' : MemR w A2 xs) (hc' : xs.length ≤ c2) (h1 : xs.length ≤ 1000) :
    Calls Try.prog 13 #[.slice A xs.length c, .slice A2 xs.length c2] w fun e w' => BoolPost w true e w' :=
  (tattlerref17_Same.calls 2000 A c xs A2 c2 xs true w (h.kc (by omega)) hc (h'.kc (by omega)) hc' (same_f xs h1)).mono fun _ _ h => ⟨h.1, h.2.below⟩
theorem same14_any (A : Option Addr) (c : Nat) (A2 : Option Addr) (c2 : Nat) (xs : List S36) (w : World) (h : NewsR w A xs) (hc : xs.length ≤ c) (h' : NewsR w A2 xs) (hc' : xs.length ≤ c2) (h1 : xs.length ≤ 1000) :
    Calls Try.prog 14 #[.slice A xs.length c, .slice A2 xs.length c2] w fun e w' => BoolPost w true e w' :=
  (tattlerref17_SameNews.calls 2000 A c xs A2 c2 xs true w (h.kc (by omega)) hc (h'.kc (by omega)) hc' (samenews_f xs h1)).mono fun _ _ h => ⟨h.1, h.2.below⟩
theorem same20_any (v v' : Value) (xs : List Int) (w : World) (h : U8R w v xs) (h' : U8R w v' xs) (h1 : xs.length ≤ 1000) :
    Calls Try.prog 20 #[v, v'] w fun e w' => BoolPost w true e w' := by
  obtain ⟨A, c, rfl, hc, h⟩ := h
  obtain ⟨A2, c2, rfl, hc2, h'⟩ := h'
  exact (tattlerref16_Same.calls 2000 A c xs A2 c2 xs true w h hc h' hc2 (same16_f xs h1)).mono fun _ _ h => ⟨h.1, h.2.below⟩
def NewsPost (w : World) (xs : List S36) (e : Ending) (w' : World) : Prop := ∃ v, e = .returned v ∧ NewsO w' w.heap.size v xs ∧ Below w.heap.size w w'
def U8Post (w : World) (xs : List Int) (e : Ending) (w' : World) : Prop := ∃ v, e = .returned v ∧ U8R w' v xs ∧ Below w.heap.size w w'
theorem all16_any (A : Option Addr) (c : Nat) (xs : List S33) (w : World) (h : MemR w A xs) (hc : xs.length ≤ c) (h1 : xs.length ≤ 1000) :
    Calls Try.prog 16 #[.slice A xs.length c] w fun e w' => NewsPost w (allL xs xs.length) e w' :=
  (view_All.calls 2000 A c xs _ w (h.kc (by omega)) hc (all_f xs h1)).mono fun _ _ ⟨v, h, hr, hb⟩ => ⟨v, h, newsO_of hr, hb⟩
theorem all23_any (A : Option Addr) (c : Nat) (xs : List S33) (w : World) (h : MemR w A xs) (hc : xs.length ≤ c) (h1 : xs.length ≤ 1000) :
    Calls Try.prog 23 #[.slice A xs.length c] w fun e w' => NewsPost w (allL xs xs.length) e w' :=
  (tattlerref17_All.calls 2000 A c xs _ w (h.kc (by omega)) hc (refall_f xs h1)).mono fun _ _ ⟨v, h, hr, hb⟩ => ⟨v, h, newsO_of hr, hb⟩
theorem up21_any (A : Option Addr) (c : Nat) (xs : List S33) (w : World) (h : MemR w A xs) (hc : xs.length ≤ c) (h1 : xs.length ≤ 1000) :
    Calls Try.prog 21 #[.slice A xs.length c] w fun e w' => U8Post w (upL xs xs.length) e w' :=
  (view_Up.calls 2000 A c xs _ w (h.kc (by omega)) hc (up_f xs h1)).mono fun _ _ ⟨v, h, hr, hb⟩ => ⟨v, h, Kd.R_reads hr, hb⟩
theorem up22_any (A : Option Addr) (c : Nat) (xs : List S33) (w : World) (h : MemR w A xs) (hc : xs.length ≤ c) (h1 : xs.length ≤ 1000) :
    Calls Try.prog 22 #[.slice A xs.length c] w fun e w' => U8Post w (upL xs xs.length) e w' :=
  (tattlerref17_Up.calls 2000 A c xs _ w (h.kc (by omega)) hc (refup_f xs h1)).mono fun _ _ ⟨v, h, hr, hb⟩ => ⟨v, h, Kd.R_reads hr, hb⟩
theorem fresh19_any (n : Int) (w : World) : Calls Try.prog 19 #[.int .i64 n] w fun e w' => MemPost w (freshL n) e w' :=
  (tattlerref17_Fresh.calls 2000 n _ w (fresh_f n)).mono fun _ _ ⟨v, h, hr, hb⟩ => ⟨v, h, memO_of hr, hb⟩
theorem fresh18_any (n : Int) (w : World) : Calls Try.prog 18 #[.int .i64 n] w fun e w' => MemPost w (freshL n) e w' := by
  unfold freshL
  by_cases h : 64 < n
  · rw [if_pos h]; exact fresh_bad n (Or.inr h) w
  · rw [if_neg h]
    by_cases h1 : n < 1
    · rw [show n.toNat = 0 by omega]; exact fresh_bad n (Or.inl h1) w
    · obtain ⟨m, rfl⟩ := Int.eq_ofNat_of_zero_le (show 0 ≤ n by omega)
      rw [Int.toNat_natCast]
      exact fresh_good m (by omega) (by omega) w
end Go.Proofs.Ythpfknigommheaa
