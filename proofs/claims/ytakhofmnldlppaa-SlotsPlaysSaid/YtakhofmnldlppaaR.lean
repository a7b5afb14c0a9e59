/- How a row of Ops reads; the contract of cut. Conditions: the row lies as Go's slices do. -/
import Derived.Test.YtakhofmnldlppaaQ
import Derived.OpenShut
namespace Go.Proofs.Ytakhofmnldlppaa
open Go.RowKit Go.ChangeShapes Go.WideShapes Go.Deep

structure OpV where
  kind : Int
  v : Int
  key : ByteArray
def cells32 (o : OpV) : List Value := [.int .i64 o.kind, .int .i64 o.v, .string o.key]
def ok32 (o : OpV) : Prop := o.key.size ≤ 9223372036854775807 ∧ (Lit.int .i64 o.v).wf = true
theorem cof32 : Try.prog.cellsOf 32 = 3 := by kernel_rfl
theorem cof3 : Try.prog.cellsOf 3 = 1 := by kernel_rfl
theorem cof9 : Try.prog.cellsOf 9 = 1 := by kernel_rfl
theorem shape32 {H : Type} {enc : TypeId × Value → H} {w : World} {base : Nat} {spare : Nat → Bool} {held : Bool} : ∀ n cs x, DataW.trod enc Try.prog w base spare held n 32 cs = some x → ∃ y, cs = cells32 y ∧ ok32 y := by
  intro n cs x h
  obtain ⟨xs, m, _, _, hl, hx, hf⟩ := DataW.trod_struct Try.underlying32 h
  have hl3 : cs.length = 3 := hl.trans cof32
  have hx3 : xs.length = 3 := hx
  match cs, hl3, xs, hx3 with
  | [c0, c1, c2], _, [x0, x1, x2], _ =>
    have h0 := hf 0 _ rfl
    have h1 := hf 1 _ rfl
    have h2 := hf 2 _ rfl
    obtain ⟨r, e0, _⟩ := DataW.trod_int Try.underlying3 h0
    obtain ⟨s, e1, _, hv⟩ := DataW.trod_int Try.underlying3 h1
    obtain ⟨q, e2, _, hq⟩ := DataW.trod_string Try.underlying9 h2
    injection e0 with e0
    injection e1 with e1
    injection e2 with e2
    subst e0 e1 e2
    exact ⟨⟨r, s, q⟩, rfl, hq, hv⟩

/-- The slice at A reads as the Ops l. -/
structure OpsA (w : World) (A : Option Addr) (c : Nat) (l : List OpV) : Prop where
  row : ∀ (i : Nat) (o : OpV), l[i]? = some o → ∃ g f, A = some ⟨g, f, none⟩ ∧ w.cell? ⟨g, f + i * 3, none⟩ = some (.int .i64 o.kind) ∧ w.cell? ⟨g, f + i * 3 + 1, none⟩ = some (.int .i64 o.v) ∧ w.cell? ⟨g, f + i * 3 + 2, none⟩ = some (.string o.key)
  ok : ∀ o ∈ l, ok32 o
  cap : l.length ≤ c
theorem OpsA.below {w w' : World} {A : Option Addr} {c : Nat} {l : List OpV} (h : OpsA w A c l) (hb : Below w.heap.size w w') : OpsA w' A c l := by
  refine ⟨fun i o ho => ?_, h.ok, h.cap⟩
  obtain ⟨g, f, e, h0, h1, h2⟩ := h.row i o ho
  exact ⟨g, f, e, (hb.cell (World.block_lt_of_cell? w _ h0)).trans h0, (hb.cell (World.block_lt_of_cell? w _ h1)).trans h1, (hb.cell (World.block_lt_of_cell? w _ h2)).trans h2⟩
theorem opsA_of_row {w : World} {a : Option Addr} {len cap : Nat} {L : List OpV} (h : RowOf cells32 3 ok32 w a len cap L) : OpsA w a cap L :=
  ⟨fun i o ho => by
      obtain ⟨b, f, e, hc⟩ := h.cell i o ho
      exact ⟨b, f, e, hc 0 _ rfl, hc 1 _ rfl, hc 2 _ rfl⟩, h.good, by rw [h.size]; exact h.le⟩
theorem OpsA.take {w : World} {A : Option Addr} {c : Nat} {l : List OpV} (h : OpsA w A c l) (k : Nat) : OpsA w A c (l.take k) := by
  refine ⟨fun i o ho => ?_, fun o ho => h.ok o (List.mem_of_mem_take ho), by rw [List.length_take]; have := h.cap; omega⟩
  rw [List.getElem?_take] at ho
  split at ho
  · exact h.row i o ho
  · cases ho
def CutPost (w : World) (A : Option Addr) (c : Nat) (l : List OpV) (e : Ending) (w' : World) : Prop := ∃ k, (l.take k).length ≤ 151 ∧ e = .returned (.slice A (l.take k).length c) ∧ Below w.heap.size w w'
theorem cut_end {w w' : World} {A : Option Addr} {c : Nat} {l : List OpV} {k : Nat} (hk : k ≤ l.length) (h1 : k ≤ 151) (hb : Below w.heap.size w w') : CutPost w A c l (.returned (.slice A k c)) w' :=
  ⟨k, by rw [List.length_take]; omega, by rw [List.length_take, Nat.min_eq_left hk], hb⟩
set_option maxHeartbeats 1000000 in
theorem cut_any {w : World} {A : Option Addr} {c : Nat} {l : List OpV} (h : OpsA w A c l) (hl : l.length ≤ 9223372036854775807) : Calls Try.prog 10 #[.slice A l.length c] w fun e w' => CutPost w A c l e w' := by
  obtain ⟨m, hm⟩ : ∃ m, l.length = m := ⟨_, rfl⟩
  have hcap : m ≤ c := by have := h.cap; omega
  rw [hm] at hl ⊢
  have HM := Lib.hid hm
  have HA := Lib.hid h
  clear h hm
  go_enter Try.func10, Try.ntmps10
  go_wp2_with fail
  go_loopw [7] (fun i wr => ∃ k : Nat, k ≤ m ∧ k ≤ 151 ∧ i = .int .i64 k ∧ Hid (Below w.heap.size w wr)) (fun i _ => m - (intOf i).toNat)
  case atStart => exact ⟨0, Nat.zero_le _, by omega, rfl, Lib.hid (Below.refl _ _)⟩
  case round =>
    obtain ⟨k, hk, hk1, rfl, hB⟩ := hrel
    by_cases hlt : k < m
    · obtain ⟨o, ho⟩ : ∃ o, l[k]? = some o := ⟨_, List.getElem?_eq_getElem (by rw [HM.out]; exact hlt)⟩
      obtain ⟨g, f, rfl, a0, a1, a2⟩ := (HA.out.below hB.out).row k o ho
      have hk0 : (0 : Int) ≤ (k : Int) := by omega
      have hkn : (k : Int) < (m : Int) := by omega
      have hkc : (k : Int) ≤ (c : Int) := by omega
      have hkc2 : k ≤ c := by omega
      have q2 : (wr.alloc (.cells #[.int .i64 o.kind, .int .i64 o.v, .string o.key] 32)).cell? ⟨wr.heap.size, 2, none⟩ = some (.string o.key) := cell_new rfl _ _ 2
      have hBa := Lib.hid (hB.out.alloc hB.out.size (.cells #[.int .i64 o.kind, .int .i64 o.v, .string o.key] 32))
      clear ho
      by_cases hbig : 150 < k
      · have hbz : (150 : Int) < (k : Int) := by omega
        have HE := Lib.hid (cut_end (A := some ⟨g, f, none⟩) (c := c) (l := l) (k := k) (by rw [HM.out]; omega) hk1 hBa.out)
        clear hB
        go_wp2_with fail
        go_ret
        exact HE.out
      · have hbz : ¬ (150 : Int) < (k : Int) := by omega
        by_cases hlong : 500 < o.key.size
        · have HE := Lib.hid (cut_end (A := some ⟨g, f, none⟩) (c := c) (l := l) (k := k) (by rw [HM.out]; omega) hk1 hBa.out)
          have hlz : (500 : Int) < (o.key.size : Int) := by omega
          clear hB
          go_wp2_with fail
          go_ret
          exact HE.out
        · have hlz : ¬ (500 : Int) < (o.key.size : Int) := by omega
          clear hB
          go_wp2_with fail
          go_roundw
          case rel => exact ⟨k + 1, by omega, by omega, by go_num, hBa⟩
          case measure => simp [intOf]; omega
    · obtain rfl : k = m := by omega
      have HE := Lib.hid (cut_end (A := A) (c := c) (l := l) (k := k) (by rw [HM.out]; exact Nat.le_refl _) hk1 hB.out)
      have hkn : ¬ (k : Int) < (k : Int) := by omega
      clear hB
      go_wp2_with fail
      go_ret
      exact HE.out
end Go.Proofs.Ytakhofmnldlppaa
