/- How a row of keys reads; the contract of the reference's Same. Conditions: rows of at most 4096 keys. -/
import Derived.Test.YtakhofmnldlppaaR
namespace Go.Proofs.Ytakhofmnldlppaa
open Go.RowKit

def StrA (w : World) (A : Option Addr) (l : List ByteArray) : Prop := ∀ (j : Nat) (s : ByteArray), l[j]? = some s → ∃ g, A = some ⟨g, 0, none⟩ ∧ w.cell? ⟨g, j, none⟩ = some (.string s)
theorem StrA.below {w w' : World} {A : Option Addr} {l : List ByteArray} (h : StrA w A l) (hb : Below w.heap.size w w') : StrA w' A l := fun j s hs => by
  obtain ⟨g, e, h0⟩ := h j s hs
  exact ⟨g, e, (hb.cell (World.block_lt_of_cell? w _ h0)).trans h0⟩
theorem own_get {w : World} {B e s n : Nat} {v : Value} {cs : List Value} (h : w.ownsRow B e s v n cs) (hl : cs.length = n * s) : ∃ A cap, v = .slice A n cap ∧ n ≤ cap ∧ ∀ j u, cs[j]? = some u → ∃ g, A = some ⟨g, 0, none⟩ ∧ B ≤ g ∧ w.cell? ⟨g, j, none⟩ = some u := by
  rcases h.2 with ⟨rfl, h0⟩ | ⟨g, cap, cur, rfl, h1, h2, h3, h4, h5, h6⟩
  · subst h0
    refine ⟨none, 0, rfl, Nat.le_refl _, fun j u hu => ?_⟩
    have := (List.getElem?_eq_some_iff.1 hu).1
    omega
  · refine ⟨_, cap, rfl, ?_, fun j u hu => ⟨g, rfl, h1, ?_⟩⟩
    · first | exact h3 | exact h4 | omega
    · rw [cell_of_row w g j _ _ _ h2]
      have hlt : j < cs.length := (List.getElem?_eq_some_iff.1 hu).1
      have : (cur.toList.take (n * s))[j]? = some u := by rw [h6]; exact hu
      rw [List.getElem?_take, if_pos (by omega)] at this
      rw [← this]
      simp
theorem KeysO.reads {w : World} {B : Nat} {v : Value} {l : List ByteArray} (h : KeysO w B v l) : ∃ A cap, v = .slice A l.length cap ∧ StrA w A l := by
  obtain ⟨A, cap, rfl, hc, hg⟩ := own_get h (by simp [strs])
  refine ⟨A, cap, rfl, fun j s hs => ?_⟩
  obtain ⟨g, e, _, h0⟩ := hg j (.string s) (by simp [strs, hs])
  exact ⟨g, e, h0⟩
set_option maxHeartbeats 1000000 in
theorem same_any {w : World} {A A2 : Option Addr} {c c2 : Nat} {l : List ByteArray} (h : StrA w A l) (h2 : StrA w A2 l) (hl : l.length ≤ 4096) : Calls Try.prog 22 #[.slice A l.length c, .slice A2 l.length c2] w fun e w' => TruePost w e w' := by
  obtain ⟨m, hm⟩ : ∃ m, l.length = m := ⟨_, rfl⟩
  rw [hm] at hl ⊢
  have HM := Lib.hid hm
  have HA := Lib.hid h
  have HA2 := Lib.hid h2
  clear h h2 hm
  go_enter Try.func22, Try.ntmps22
  go_wp2_with fail
  go_loopw [13] (fun i wr => ∃ k : Nat, k ≤ m ∧ i = .int .i64 k ∧ Hid (Below w.heap.size w wr)) (fun i _ => m - (intOf i).toNat)
  case atStart => exact ⟨0, Nat.zero_le _, rfl, Lib.hid (Below.refl _ _)⟩
  case round =>
    obtain ⟨k, hk, rfl, hB⟩ := hrel
    by_cases hlt : k < m
    · obtain ⟨s, hs⟩ : ∃ s, l[k]? = some s := ⟨_, List.getElem?_eq_getElem (by rw [HM.out]; exact hlt)⟩
      obtain ⟨g, rfl, a0⟩ := (HA.out.below hB.out) k s hs
      obtain ⟨g2, rfl, b0⟩ := (HA2.out.below hB.out) k s hs
      have hk0 : (0 : Int) ≤ (k : Int) := by omega
      have hkn : (k : Int) < (m : Int) := by omega
      have hss := str_same s
      clear hs
      go_wp2_with fail
      go_quiet (fail)
      go_wp2_with fail
      go_roundw
      case rel => exact ⟨k + 1, by omega, by go_num, Lib.hid ⟨hB.out.os, hB.out.tape, hB.out.output, hB.out.size, hB.out.block⟩⟩
      case measure => simp [intOf]; omega
    · obtain rfl : k = m := by omega
      have hkn : ¬ (k : Int) < (k : Int) := by omega
      go_wp2_with fail
      go_ret
      exact ⟨rfl, hB.out⟩
end Go.Proofs.Ytakhofmnldlppaa
