/- The contracts of a Counts' Get and Add. Conditions: the receiver is nil, or a Counts of distinct names. -/
import Derived.Test.YtackgcbfpkndjaaA
import Derived.Test.YtackgcbfpkndjaaB
import Derived.Lib.Hide
import Derived.Outline
namespace Go.Proofs.Ytackgcbfpkndjaa
open Go.RowKit Go.Maps Go.WideMaps

theorem get_nil (s : ByteArray) (w : World) :
    Calls Try.prog 10 #[.pointer none, .string s] w fun e w' => e = .returned (.int .u64 0) ∧ w = w' := by
  go_enter Try.func10, Try.ntmps10
  go_wp2
  go_ret
  exact ⟨rfl, rfl⟩
theorem add_nil (s : ByteArray) (n : Int) (w : World) :
    Calls Try.prog 9 #[.pointer none, .string s, .int .u64 n] w fun e w' => e = .returned (.bool false) ∧ w = w' := by
  go_enter Try.func9, Try.ntmps9
  go_wp2
  go_ret
  exact ⟨rfl, rfl⟩

theorem get_hit {b bn bm bv : Nat} {ns : List ByteArray} {vs : List Int} {w : World} (h : CountsAt w b bn bm bv ns vs) (s : ByteArray) (i : Nat) (x : Int) (hi : ns[i]? = some s) (hx : vs[i]? = some x) :
    Calls Try.prog 10 #[.pointer (some ⟨b, 0, none⟩), .string s] w fun e w' => e = .returned (.int .u64 x) ∧ w = w' := by
  have c1 := h.cell1
  have c2 := h.cell2
  have cv := h.cntAt hx
  have hlt : i < ns.length := (List.getElem?_eq_some_iff.1 hi).1
  have hsh := h.short
  have hkey := keyOf_string_mk Try.underlying9 (h.fit s (List.mem_of_getElem? hi))
  have hat := at_atOf h.nod hi (.lit (.int .i64 0))
  have hhas := has_yes (List.mem_of_getElem? hi)
  have hown := h.map
  have H := Lib.hid h
  have HI := Lib.hid hi
  have HX := Lib.hid hx
  have HAT := Lib.hid hat
  have HHAS := Lib.hid hhas
  clear h hi hx hat hhas
  go_enter Try.func10, Try.ntmps10
  go_wp2_with (first
    | (at_lookup; refine wpList_lookup_known _ rfl _ _ 50 rfl 9 3 .i64 law9 Try.underlying50 Try.underlying3 (zero3 _) bm _ _ rfl hown _ _ rfl hkey _ _ HAT.out HHAS.out ?_)
    | (go_at_call 18; refine (load_any _ _ x _ cv).mono ?_; rintro e w' ⟨rfl, rfl⟩))
  go_ret
  exact ⟨rfl, rfl⟩

theorem get_miss {b bn bm bv : Nat} {ns : List ByteArray} {vs : List Int} {w : World} (h : CountsAt w b bn bm bv ns vs) (s : ByteArray) (hs : s.size ≤ maxLen) (hi : s ∉ ns) :
    Calls Try.prog 10 #[.pointer (some ⟨b, 0, none⟩), .string s] w fun e w' => e = .returned (.int .u64 0) ∧ w = w' := by
  have c1 := h.cell1
  have hkey := keyOf_string_mk Try.underlying9 hs
  have hhas := has_no hi
  have hown := h.map
  have H := Lib.hid h
  have HHAS := Lib.hid hhas
  clear h hi hhas
  go_enter Try.func10, Try.ntmps10
  go_wp2_with (first
    | (at_lookup; refine wpList_lookup_own_ok_int _ rfl _ _ 50 rfl 9 3 .i64 law9 Try.underlying50 Try.underlying3 (zero3 _) bm _ _ rfl hown _ _ rfl hkey ?_; intro c _ _; have hhas := HHAS.out; rw [show (Lit.string s.data.toList) = key s from rfl, hhas]; clear hhas))
  go_ret
  exact ⟨rfl, rfl⟩

def addTo (x n : Int) : Int := if x + n ≤ 18446744073709551615 then x + n else 18446744073709551615

theorem add_hit {b bn bm bv : Nat} {ns : List ByteArray} {vs : List Int} {w : World} (h : CountsAt w b bn bm bv ns vs) (s : ByteArray) (i : Nat) (x n : Int) (hi : ns[i]? = some s) (hx : vs[i]? = some x) (hn0 : 0 ≤ n) (hn1 : n ≤ 18446744073709551615) :
    Calls Try.prog 9 #[.pointer (some ⟨b, 0, none⟩), .string s, .int .u64 n] w fun e w' => e = .returned (.bool true) ∧ w.setCell ⟨bv, i, none⟩ (.int .u64 (addTo x n)) = w' := by
  have c1 := h.cell1
  have c2 := h.cell2
  have cv := h.cntAt hx
  have cf := h.cntFree i
  have hlt : i < ns.length := (List.getElem?_eq_some_iff.1 hi).1
  have hsh := h.short
  have hkey := keyOf_string_mk Try.underlying9 (h.fit s (List.mem_of_getElem? hi))
  have hat := at_atOf h.nod hi (.lit (.int .i64 0))
  have hhas := has_yes (List.mem_of_getElem? hi)
  have hown := h.map
  have hwf := h.wf x (List.mem_of_getElem? hx)
  obtain ⟨hw0, hw1⟩ := hwf
  have H := Lib.hid h
  have HI := Lib.hid hi
  have HX := Lib.hid hx
  have HAT := Lib.hid hat
  have HHAS := Lib.hid hhas
  clear h hi hx hat hhas
  go_enter Try.func9, Try.ntmps9
  go_wp2_with (first
    | (at_lookup; refine wpList_lookup_known _ rfl _ _ 50 rfl 9 3 .i64 law9 Try.underlying50 Try.underlying3 (zero3 _) bm _ _ rfl hown _ _ rfl hkey _ _ HAT.out HHAS.out ?_)
    | (go_at_call 18; refine (load_any _ _ x _ cv).mono ?_; rintro e w' ⟨rfl, rfl⟩))
  refine wp_loop_rounds 1 ?_
  rw [rounds_succ]
  go_wp2_with (first
    | (go_at_call 18; refine (load_any _ _ x _ cv).mono ?_; rintro e w' ⟨rfl, rfl⟩))
  all_goals
    refine (cas_any bv i x _ _ cv cf).mono ?_
    rintro e w' ⟨rfl, rfl⟩
    go_wp2
    go_ret
    exact ⟨rfl, congrArg (fun z => w.setCell ⟨bv, i, none⟩ (.int .u64 z)) (by unfold addTo; split <;> omega)⟩

theorem add_miss {b bn bm bv : Nat} {ns : List ByteArray} {vs : List Int} {w : World} (h : CountsAt w b bn bm bv ns vs) (s : ByteArray) (n : Int) (hs : s.size ≤ maxLen) (hi : s ∉ ns) :
    Calls Try.prog 9 #[.pointer (some ⟨b, 0, none⟩), .string s, .int .u64 n] w fun e w' => e = .returned (.bool false) ∧ w = w' := by
  have c1 := h.cell1
  have hkey := keyOf_string_mk Try.underlying9 hs
  have hhas := has_no hi
  have hown := h.map
  have H := Lib.hid h
  have HHAS := Lib.hid hhas
  clear h hi hhas
  go_enter Try.func9, Try.ntmps9
  go_wp2_with (first
    | (at_lookup; refine wpList_lookup_own_ok_int _ rfl _ _ 50 rfl 9 3 .i64 law9 Try.underlying50 Try.underlying3 (zero3 _) bm _ _ rfl hown _ _ rfl hkey ?_; intro c _ _; have hhas := HHAS.out; rw [show (Lit.string s.data.toList) = key s from rfl, hhas]; clear hhas))
  go_ret
  exact ⟨rfl, rfl⟩
end Go.Proofs.Ytackgcbfpkndjaa
