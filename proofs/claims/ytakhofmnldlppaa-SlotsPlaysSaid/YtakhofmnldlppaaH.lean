/- The contract of a table's Keys. Conditions: the table is nil, or one of at most 2048 slots. -/
import Derived.Test.YtakhofmnldlppaaF
import Derived.Lib.SliceRun
namespace Go.Proofs.Ytakhofmnldlppaa
open Go.RowKit

def keysP (L : List S) : List ByteArray := (L.filter (·.used)).map (·.key)
def strs (l : List ByteArray) : List Value := l.map Value.string
theorem keysP_snoc (L : List S) (x : S) : keysP (L ++ [x]) = if x.used then keysP L ++ [x.key] else keysP L := by
  unfold keysP
  rw [List.filter_append, List.map_append]
  cases hu : x.used with
  | true => simp [hu]
  | false => simp [hu]
theorem keysP_le (L : List S) : (keysP L).length ≤ L.length := by
  unfold keysP
  rw [List.length_map]
  exact List.length_filter_le _ _
theorem keysP_next {L : List S} {k : Nat} {x : S} (h : L[k]? = some x) : keysP (L.take (k + 1)) = if x.used then keysP (L.take k) ++ [x.key] else keysP (L.take k) := by
  have hk := (List.getElem?_eq_some_iff.1 h).1
  rw [List.take_succ_eq_append_getElem hk]
  rw [List.getElem?_eq_getElem hk] at h
  injection h with h
  rw [h, keysP_snoc]
def KeysO (w : World) (B : Nat) (v : Value) (l : List ByteArray) : Prop := w.ownsRow B 9 1 v l.length (strs l)
def KeysPost (w : World) (l : List ByteArray) (e : Ending) (w' : World) : Prop := ∃ v, e = .returned v ∧ KeysO w' w.heap.size v l ∧ Below w.heap.size w w'
theorem info9 : (Try.prog.info? 9).map (fun i => (i.zero, i.size, i.bytes)) = some (some (.string ⟨#[]⟩), 1, 16) := by kernel_rfl
theorem keys_nil (w : World) : Calls Try.prog 13 #[.pointer none] w fun e w' => e = .returned (.slice none 0 0) ∧ w = w' := by
  go_enter Try.func13, Try.ntmps13
  go_wp2
  go_ret
  exact ⟨rfl, rfl⟩
theorem cell_new {W : World} {n : Nat} (h : W.heap.size = n) (cs : Array Value) (t : TypeId) (j : Nat) : (W.alloc (.cells cs t)).cell? ⟨n, j, none⟩ = cs[j]? := by
  subst h
  rw [cell_of_row _ _ j cs t (0, 0) (heap_alloc_new W _)]
theorem add_at {b o n : Nat} : (⟨b, o, none⟩ : Addr).add n = ⟨b, o + n, none⟩ := by
  simp only [Addr.add]
  split
  · rename_i h; rw [h]; rfl
  · rfl
theorem size_alloc (w : World) (o : Obj) : (w.alloc o).heap.size = w.heap.size + 1 := by simp
set_option maxHeartbeats 1000000 in
theorem keys_any {w : World} {b g : Nat} {L : List S} {most n : Nat} (h : TabAt w b g L most n) (h1 : L.length ≤ 2048) :
    Calls Try.prog 13 #[.pointer (some ⟨b, 0, none⟩)] w fun e w' => KeysPost w (keysP L) e w' := by
  obtain ⟨i0, hi0, hz0, hz1, hz2⟩ := info_parts info9
  obtain ⟨c0, -, -⟩ := h.head
  obtain ⟨m, hml⟩ : ∃ m, L.length = m := ⟨_, rfl⟩
  rw [hml] at c0 h1
  have HT := Lib.hid h
  have HM := Lib.hid hml
  clear h hml
  go_enter Try.func13, Try.ntmps13
  go_wp2_with fail
  go_loopw [3, 14] (fun cv i wr => ∃ k : Nat, k ≤ m ∧ i = .int .i64 k ∧ Hid (KeysO wr w.heap.size cv (keysP (L.take k))) ∧ Hid (Below w.heap.size w wr)) (fun _ i _ => m - (intOf i).toNat)
  case atStart => exact ⟨0, Nat.zero_le _, rfl, Lib.hid (World.ownsRow_nil _ _ _ _), Lib.hid (Below.refl _ _)⟩
  case round =>
    obtain ⟨k, hk, rfl, hO, hB⟩ := hrel
    by_cases hlt : k < m
    · obtain ⟨x, hx⟩ : ∃ x, L[k]? = some x := ⟨_, List.getElem?_eq_getElem (by rw [HM.out]; exact hlt)⟩
      obtain ⟨a0, a1, a2, a3⟩ := (HT.out.below hB.out).at hx
      have hnx := keysP_next hx
      have hle : (keysP (L.take k)).length ≤ 2048 := Nat.le_trans (keysP_le _) (by rw [List.length_take]; omega)
      have hk0 : (0 : Int) ≤ (k : Int) := by omega
      have hkn : (k : Int) < (m : Int) := by omega
      have q0 : (wr.alloc (.cells #[.bool x.used, .string x.key, .int .i64 x.home, .int .i64 x.v] 65)).cell? ⟨wr.heap.size, 0, none⟩ = some (.bool x.used) := cell_new rfl _ _ 0
      have q1 : (wr.alloc (.cells #[.bool x.used, .string x.key, .int .i64 x.home, .int .i64 x.v] 65)).cell? ⟨wr.heap.size, 1, none⟩ = some (.string x.key) := cell_new rfl _ _ 1
      have HNX := Lib.hid hnx
      have hba : Below wr.heap.size wr (wr.alloc (.cells #[.bool x.used, .string x.key, .int .i64 x.home, .int .i64 x.v] 65)) := (Below.refl _ _).alloc (Nat.le_refl _) _
      have hBa := Lib.hid (hB.out.trans (hba.mono hB.out.size))
      have hOa := Lib.hid (World.ownsRow.alloc hO.out (.cells #[.bool x.used, .string x.key, .int .i64 x.home, .int .i64 x.v] 65))
      clear hnx hx hba
      cases hu : x.used with
      | false =>
        rw [hu] at q0 a0 hBa hOa q1
        have HU := Lib.hid hu
        clear hu hO hB
        go_wp2_with fail
        go_roundw
        case rel =>
          refine ⟨k + 1, by omega, by go_num, Lib.hid ?_, hBa⟩
          rw [HNX.out, HU.out]
          exact hOa.out
        case measure => simp [intOf]; omega
      | true =>
        rw [hu] at q0 a0 hBa hOa q1
        have HU := Lib.hid hu
        clear hu hO hB
        go_wp2_with (first
          | (at_builtin; refine wpList_append_own _ rfl _ _ 36 rfl w.heap.size 9 i0 (.string ⟨#[]⟩) 1 16 Try.underlying36 hi0 hz0 hz1 hz2 rfl (by decide) _ _ _ rfl (World.ownsRow.alloc hOa.out _) ⟨wr.heap.size + 1, 0, none⟩ 1 1 [.string x.key] rfl rfl ?c1 ?c2 ?c3 ?c4 ?c5 ?_)
          | fail)
        case c1 =>
          intro j u hj
          rw [add_at, Nat.zero_add, cell_new (size_alloc _ _)]
          simpa using hj
        case c2 => intro u hu; simp at hu; subst hu; rfl
        case c3 => unfold maxLen; omega
        case c4 => omega
        case c5 => simp only [size_alloc]; have := hBa.out.size; simp only [size_alloc] at this; omega
        intro v' w2 hown1 hg1 _
        have hO2 : KeysO w2 w.heap.size v' (keysP (L.take (k + 1))) := by
          unfold KeysO strs
          rw [HNX.out, HU.out, if_pos rfl, List.length_append, List.map_append]
          exact hown1
        have hB2 : Below w.heap.size w w2 := (hBa.out.alloc hBa.out.size _).grown hg1 (by have := hBa.out.size; simp only [size_alloc] at this ⊢; omega) (fun q hq => (World.ownsRow.lt hOa.out q hq).1)
        have HO2 := Lib.hid hO2
        have HB2 := Lib.hid hB2
        clear hO2 hB2 hown1 hg1
        go_wp2_with fail
        go_roundw
        case rel => exact ⟨k + 1, by omega, by go_num, HO2, HB2⟩
        case measure => simp [intOf]; omega
    · obtain rfl : k = m := by omega
      have hO2 := hO.out
      rw [List.take_of_length_le (Nat.le_of_eq HM.out)] at hO2
      have HO2 := Lib.hid hO2
      clear hO hO2
      go_wp2_with fail
      go_ret
      exact ⟨_, rfl, HO2.out, hB.out⟩
end Go.Proofs.Ytakhofmnldlppaa
