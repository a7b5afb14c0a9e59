/- The walk of ViewTells. Conditions: the row lies as Go's slices do. -/
import Derived.Test.YthpfknigommheaaVh
namespace Go.Proofs.Ythpfknigommheaa
open Go.RowKit Go.ChangeShapes Go.WideShapes Go.ChangeAt Go.Deep PViewTells Go.Proofs.YthpfknigommheaaW.PrintWords

theorem memA_of_row {w : World} {a : Option Addr} {len cap : Nat} {L : List S33} (h : RowOf cells33 2 ok33 w a len cap L) : MemA w a cap L := by
  refine ⟨fun i x hx => ?_, fun hA => ?_, by rw [h.size]; exact h.le⟩
  · obtain ⟨b, o, e, hc⟩ := h.cell i x hx
    exact ⟨b, o, e, hc 0 _ rfl, hc 1 _ rfl⟩
  · obtain ⟨h1, h2⟩ := h.nil hA
    exact ⟨List.length_eq_zero_iff.1 (h.size.trans h1), h2⟩
theorem newsA_of_row {w : World} {a : Option Addr} {len cap : Nat} {L : List S36} (h : RowOf cells36 3 ok36 w a len cap L) : NewsA w a cap L := by
  refine ⟨fun i x hx => ?_, by rw [h.size]; exact h.le⟩
  obtain ⟨b, o, e, hc⟩ := h.cell i x hx
  exact ⟨b, o, e, hc 0 _ rfl, hc 1 _ rfl, hc 2 _ rfl⟩
theorem newsA_nil (w : World) : NewsA w none 0 [] := ⟨fun i x hx => by simp at hx, Nat.le_refl _⟩
def TruePost (w : World) (e : Ending) (w' : World) : Prop := e = .returned (.bool true) ∧ Below w.heap.size w w'

theorem freshL_len (n : Int) : (freshL n).length ≤ 1000 := by
  unfold freshL
  split
  · exact Nat.zero_le _
  · rw [List.length_replicate]; omega
theorem great_nil (A : Option Addr) (c : Nat) (xs : List S33) (w : World) (h : MemA w A c xs) (h1 : xs.length ≤ 9223372036854775807) :
    Calls Try.prog 9 #[.slice A xs.length c, .slice none 0 0] w fun e w' => BoolPost w (decide (64 < xs.length)) e w' := by
  have h := great_any A c xs none 0 [] w h (newsA_nil w) h1 (by decide)
  have e : decide (64 < xs.length ∨ 300 < ([] : List S36).length) = decide (64 < xs.length) := by
    rw [decide_eq_decide]
    exact ⟨fun h => h.elim id (fun h => absurd h (by decide)), Or.inl⟩
  rw [e] at h
  exact h
/-- Two structs lie in blocks b and b + 1. -/
def Four (w : World) (b : Nat) (u0 u1 v0 v1 : Value) : Prop := w.cell? ⟨b, 0, none⟩ = some u0 ∧ w.cell? ⟨b, 1, none⟩ = some u1 ∧ w.cell? ⟨b + 1, 0, none⟩ = some v0 ∧ w.cell? ⟨b + 1, 1, none⟩ = some v1
theorem four_below {w w' : World} {b : Nat} {u0 u1 v0 v1 : Value} (h : Four w b u0 u1 v0 v1) (hb : Below w.heap.size w w') : Four w' b u0 u1 v0 v1 :=
  ⟨cell_keep hb h.1, cell_keep hb h.2.1, cell_keep hb h.2.2.1, cell_keep hb h.2.2.2⟩
theorem two_new (w : World) (u0 u1 v0 v1 : Value) (t : TypeId) : Four ((w.alloc (.cells #[u0, u1] t)).alloc (.cells #[v0, v1] t)) w.heap.size u0 u1 v0 v1 :=
  ⟨alloc_keep (cell_new rfl _ _ 0), alloc_keep (cell_new rfl _ _ 1), cell_new (size_alloc _ _) _ _ 0, cell_new (size_alloc _ _) _ _ 1⟩
set_option maxRecDepth 100000 in
set_option maxHeartbeats 2000000 in
theorem viewTells_some (z0 z1 : S33) (n : Int) (A : Option Addr) (c : Nat) (xs : List S33) (w : World) (hx : MemA w A c xs) (hl : xs.length ≤ 9223372036854775807) :
    Calls Try.prog 8 #[.agg #[.int .u8 z0.f0, .int .u32 z0.f1], .agg #[.int .u8 z1.f0, .int .u32 z1.f1], .int .i64 n, .slice A xs.length c] w fun e w' => TruePost w e w' := by
  have HX := Lib.hid hx
  clear hx
  go_enter Try.func8, Try.ntmps8
  go_wp2_with fail
  have hb0 : Below w.heap.size w ((w.alloc (.cells #[.int .u8 z0.f0, .int .u32 z0.f1] 33)).alloc (.cells #[.int .u8 z1.f0, .int .u32 z1.f1] 33)) := ((Below.refl _ _).alloc (Nat.le_refl _) _).alloc (by rw [size_alloc]; exact Nat.le_succ _) _
  have hz0 := two_new w (.int .u8 z0.f0) (.int .u32 z0.f1) (.int .u8 z1.f0) (.int .u32 z1.f1) 33
  obtain ⟨w0, hw0⟩ : ∃ w0, w0 = ((w.alloc (.cells #[.int .u8 z0.f0, .int .u32 z0.f1] 33)).alloc (.cells #[.int .u8 z1.f0, .int .u32 z1.f1] 33)) := ⟨_, rfl⟩
  rw [← hw0] at hb0 hz0 ⊢
  have HB0 := Lib.hid hb0
  have HZ := Lib.hid hz0
  have hgr := Lib.hid (great_nil A c xs w0 (HX.out.below hb0) hl)
  clear hw0 hb0 hz0
  refine (hgr.out).mono ?_
  rintro e w1 ⟨rfl, hb1⟩
  have HB1 := Lib.hid (HB0.out.trans (hb1.mono HB0.out.size))
  have HZ1 := Lib.hid (four_below HZ.out hb1)
  clear hb1 hgr HB0 HZ
  by_cases hg : 64 < xs.length
  · have hd : decide (64 < xs.length) = true := decide_eq_true hg
    rw [hd]
    clear hd
    go_wp2_with fail
    refine (fixed_any w1).mono ?_
    rintro e w2 ⟨rfl, hb2⟩
    have HB2 := Lib.hid (HB1.out.trans (hb2.mono HB1.out.size))
    clear hb2 HB1
    go_wp2_with fail
    go_ret
    exact ⟨rfl, HB2.out⟩
  · have hd : decide (64 < xs.length) = false := decide_eq_false hg
    rw [hd]
    have hx64 : xs.length ≤ 64 := Nat.le_of_not_lt hg
    clear hd hl
    go_wp2_with fail
    obtain ⟨z00, z01, z10, z11⟩ := HZ1.out
    go_cut [8] (fun v wx => v = .bool true ∧ Below w.heap.size w wx)
    case first =>
      go_region_held3 (fun w' => w'.cell? ⟨w.heap.size, 0, none⟩ = some (.int .u8 z0.f0) ∧ w'.cell? ⟨w.heap.size, 1, none⟩ = some (.int .u32 z0.f1) ∧ w'.cell? ⟨w.heap.size + 1, 0, none⟩ = some (.int .u8 z1.f0) ∧ w'.cell? ⟨w.heap.size + 1, 1, none⟩ = some (.int .u32 z1.f1))
        ((go_split_ands; (refine ⟨?_, ?_, ?_, ?_⟩ <;> first | assumption | exact cell_keep b10 (by assumption) | exact cell_keep b17 (by assumption) | exact cell_keep b15 (by assumption) | exact cell_keep b18 (by assumption) | exact cell_keep b19 (by assumption) | exact cell_keep b13 (by assumption) | exact cell_keep b21 (by assumption) | exact cell_keep b22 (by assumption) | exact cell_keep b20 (by assumption) | exact cell_keep b16 (by assumption) | exact cell_keep b23 (by assumption) | exact cell_keep b14 (by assumption))))
        (first
          | (go_at_call 10; refine (fixed_any _).mono ?_; rintro e v10 ⟨rfl, b10⟩; have B10 := Lib.hid (HB1.out.drew.trans (b10.mono HB1.out.size)))
          | (go_at_call 17; refine (newer17_any z0 z1 _).mono ?_; rintro e v17 ⟨rfl, b17⟩; have B17 := Lib.hid (B10.out.trans (b17.mono B10.out.size)))
          | (go_at_call 15; refine (newer15_any z0 z1 _).mono ?_; rintro e v15 ⟨rfl, b15⟩; have B15 := Lib.hid (B17.out.trans (b15.mono B17.out.size)))
          | (go_at_call 18; refine (fresh18_any n _).mono ?_; rintro e v18 ⟨f18, rfl, m18, b18⟩; obtain ⟨A18, c18, rfl, ma18⟩ := m18.arg; have M18 := Lib.hid ma18; clear m18 ma18; have B18 := Lib.hid (B15.out.trans (b18.mono B15.out.size)))
          | (go_at_call 19; refine (fresh19_any n _).mono ?_; rintro e v19 ⟨f19, rfl, m19, b19⟩; obtain ⟨A19, c19, rfl, ma19⟩ := m19.arg; have M19 := Lib.hid ma19; have N18 := Lib.hid (M18.out.below b19); clear m19 ma19; have B19 := Lib.hid (B18.out.trans (b19.mono B18.out.size)))
          | (go_at_call 13; refine (same13_any A18 c18 A19 c19 (freshL n) _ N18.out.row N18.out.cap M19.out.row M19.out.cap (freshL_len n)).mono ?_; rintro e v13 ⟨rfl, b13⟩; have B13 := Lib.hid (B19.out.trans (b13.mono B19.out.size)))
          | (go_at_call 21; refine (up21_any A c xs _ (HX.out.below B13.out).row HX.out.cap (by omega)).mono ?_; rintro e v21 ⟨f21, rfl, m21, b21⟩; have M21 := Lib.hid m21; clear m21; have B21 := Lib.hid (B13.out.trans (b21.mono B13.out.size)))
          | (go_at_call 22; refine (up22_any A c xs _ (HX.out.below B21.out).row HX.out.cap (by omega)).mono ?_; rintro e v22 ⟨f22, rfl, m22, b22⟩; have M22 := Lib.hid m22; have N21 := Lib.hid (M21.out.below b22); clear m22; have B22 := Lib.hid (B21.out.trans (b22.mono B21.out.size)))
          | (go_at_call 20; refine (same20_any f21 f22 (upL xs xs.length) _ N21.out M22.out (Nat.le_trans (upL_len xs xs.length) (by omega))).mono ?_; rintro e v20 ⟨rfl, b20⟩; have B20 := Lib.hid (B22.out.trans (b20.mono B22.out.size)))
          | (go_at_call 16; refine (all16_any A c xs _ (HX.out.below B20.out).row HX.out.cap (by omega)).mono ?_; rintro e v16 ⟨f16, rfl, m16, b16⟩; obtain ⟨A16, c16, rfl, ma16⟩ := m16.arg; have M16 := Lib.hid ma16; clear m16 ma16; have B16 := Lib.hid (B20.out.trans (b16.mono B20.out.size)))
          | (go_at_call 23; refine (all23_any A c xs _ (HX.out.below B16.out).row HX.out.cap (by omega)).mono ?_; rintro e v23 ⟨f23, rfl, m23, b23⟩; obtain ⟨A23, c23, rfl, ma23⟩ := m23.arg; have M23 := Lib.hid ma23; have N16 := Lib.hid (M16.out.below b23); clear m23 ma23; have B23 := Lib.hid (B16.out.trans (b23.mono B16.out.size)))
          | (go_at_call 14; refine (same14_any A16 c16 A23 c23 (allL xs xs.length) _ N16.out.row N16.out.cap M23.out.row M23.out.cap (by rw [allL_len]; omega)).mono ?_; rintro e v14 ⟨rfl, b14⟩; have B14 := Lib.hid (B23.out.trans (b14.mono B23.out.size))))
      go_wp2
      go_meet
      exact ⟨rfl, B14.out⟩
    case rest =>
      obtain ⟨rfl, hb⟩ := hcut
      have BE := Lib.hid hb
      clear hb
      go_wp2_with fail
      go_ret
      exact ⟨rfl, BE.out⟩
theorem viewTells_walk (z0 z1 : S33) (n : Int) (a : Option Addr) (len cap : Nat) (L : List S33) (w : World) (_h0 : ok33 z0) (_h1 : ok33 z1) (_hn : (Lit.int .i64 n).wf = true) (hrow : RowOf cells33 2 ok33 w a len cap L) (hr : len * 8 ≤ 140737488351232) :
    Calls Try.prog 8 #[.agg #[.int .u8 z0.f0, .int .u32 z0.f1], .agg #[.int .u8 z1.f0, .int .u32 z1.f1], .int .i64 n, .slice a len cap] w fun e w' => TruePost w e w' := by
  have hm := memA_of_row hrow
  have hs := hrow.size
  subst hs
  exact viewTells_some z0 z1 n a cap L w hm (by omega)
end Go.Proofs.Ythpfknigommheaa
