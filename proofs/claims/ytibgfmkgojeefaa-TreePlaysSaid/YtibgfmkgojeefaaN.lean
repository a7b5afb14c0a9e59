/- How a Flip reads as an argument. -/
import Derived.Test.YtibgfmkgojeefaaM
namespace Go.Proofs.Ytibgfmkgojeefaa
open Go.RowKit Go.Maps Go.WideMaps Go.ChangeShapes Go.WideShapes Go.Deep

theorem cof39 : Try.prog.cellsOf 39 = 2 := by kernel_rfl
theorem shape39 {H : Type} {enc : TypeId × Value → H} {w : World} {base : Nat} {spare : Nat → Bool} {held : Bool} : ∀ n cs x, DataW.trod enc Try.prog w base spare held n 39 cs = some x → ∃ y, cs = cells39 y ∧ ok39 y := by
  intro n cs x h
  obtain ⟨xs, m, _, _, hl, hx, hf⟩ := DataW.trod_struct Try.underlying39 h
  have hl2 : cs.length = 2 := hl.trans cof39
  have hx2 : xs.length = 2 := hx
  match cs, hl2, xs, hx2 with
  | [c0, c1], _, [x0, x1], _ =>
    have h0 := hf 0 _ rfl
    have h1 := hf 1 _ rfl
    obtain ⟨q, e0, _, hq⟩ := DataW.trod_int Try.underlying3 h0
    obtain ⟨r, e1, _, hr⟩ := DataW.trod_int Try.underlying26 h1
    injection e0 with e0
    injection e1 with e1
    subst e0 e1
    have b0 := bounds_i64 hq
    have b1 := bounds_u64 hr
    obtain ⟨r, rfl⟩ := Int.eq_ofNat_of_zero_le b1.1
    refine ⟨⟨q, r⟩, rfl, b0.1, b0.2, ?_⟩
    show r < 2 ^ 64
    have := b1.2
    omega
theorem agg_39 {H : Type} {enc : TypeId × Value → H} {W w : World} {base base' : Nat} {spare : Nat → Bool} {held : Bool} {v : Value} {d : DataW H} {p : List MemPlace} (hv : Value.okWide Try.prog W .any base' 39 v)
    (h : DataW.Trod enc Try.prog w base spare held 39 v d p) : ∃ z : FlipV, v = .agg #[.int .i64 z.i, .int .u64 (z.x : Int)] ∧ ok39 z := by
  obtain ⟨cs, rfl, hs⟩ := okWide_struct Try.underlying39 hv
  obtain ⟨fuel, hf⟩ := h
  obtain ⟨y, he, hok⟩ := shape39 _ _ _ hf
  refine ⟨y, ?_, hok⟩
  have : cs.toList = cells39 y := he
  rw [show cs = #[.int .i64 y.i, .int .u64 (y.x : Int)] from Array.ext' this]
end Go.Proofs.Ytibgfmkgojeefaa
