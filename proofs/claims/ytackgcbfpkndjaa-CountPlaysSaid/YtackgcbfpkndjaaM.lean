/- The contract of New where the names may not be: nil and ErrArg. Conditions: at most 4096 names. -/
import Derived.Test.YtackgcbfpkndjaaE
namespace Go.Proofs.Ytackgcbfpkndjaa
open Go.RowKit Go.Maps Go.WideMaps

/-- The names that New takes. -/
def Good (ns : List ByteArray) : Prop := ns.Nodup ∧ ∀ s ∈ ns, s.size ≠ 0
/-- The first name that is not taken. -/
def BadAt (ns : List ByteArray) (k : Nat) (s : ByteArray) : Prop := ns[k]? = some s ∧ Good (ns.take k) ∧ (s.size = 0 ∨ s ∈ ns.take k)
theorem bad_at (ns : List ByteArray) (h : ¬ Good ns) : ∃ k s, BadAt ns k s := by
  have key : ∀ d k, k + d = ns.length → Good (ns.take k) → ∃ k s, BadAt ns k s := by
    intro d
    induction d with
    | zero => intro k hk hg; rw [List.take_of_length_le (by omega)] at hg; exact absurd hg h
    | succ d ih =>
      intro k hk hg
      obtain ⟨s, hs⟩ : ∃ s, ns[k]? = some s := ⟨_, List.getElem?_eq_getElem (by omega)⟩
      by_cases hb : s.size = 0 ∨ s ∈ ns.take k
      · exact ⟨k, s, hs, hg, hb⟩
      · refine ih (k + 1) (by omega) ?_
        have e : ns.take (k + 1) = ns.take k ++ [s] := by
          rw [List.take_succ_eq_append_getElem (by omega)]
          rw [List.getElem?_eq_getElem (by omega)] at hs
          injection hs with hs
          rw [hs]
        rw [e]
        constructor
        · refine List.nodup_append.2 ⟨hg.1, by simp, ?_⟩
          intro x hx y hy e
          rw [List.mem_singleton] at hy
          exact hb (.inr (by rw [← hy, ← e]; exact hx))
        · intro x hx
          rcases List.mem_append.1 hx with hx | hx
          · exact hg.2 x hx
          · rw [List.mem_singleton] at hx
            rw [hx]
            exact fun e => hb (.inl e)
  exact key ns.length 0 (by omega) (by constructor <;> simp)
theorem empty_yes {s : ByteArray} (h : s.size = 0) : s.toList.isEmpty = true := by
  rw [ByteArray.toList_eq]
  cases e : s.data.toList with
  | nil => rfl
  | cons a l => exact absurd h (by have := congrArg List.length e; rw [Array.length_toList] at this; intro h; have h2 : s.data.size = 0 := h; rw [this] at h2; simp at h2)
def BadPost (w : World) (e : Ending) (w' : World) : Prop := e = .returned (.tuple #[.pointer none, .int .i64 1]) ∧ Below w.heap.size w w'
theorem new_none (a : Option Addr) (c : Nat) (w : World) : Calls Try.prog 7 #[.slice a 0 c] w fun e w' => BadPost w e w' := by
  go_enter Try.func7, Try.ntmps7
  go_wp2
  go_ret2
  exact ⟨rfl, Below.refl _ _⟩

set_option maxHeartbeats 1000000 in
theorem new_bad (A : Addr) (c : Nat) (ns : List ByteArray) (w : World) (hc : ∀ j s, ns[j]? = some s → w.cell? (A.add j) = some (.string s)) (hn : ns.length ≤ 4096) (K : Nat) (z : ByteArray) (hK : BadAt ns K z)
    (hfit : ∀ s ∈ ns, s.size ≤ maxLen) :
    Calls Try.prog 7 #[.slice (some A) ns.length c] w fun e w' => BadPost w e w' := by
  have hKl : K < ns.length := (List.getElem?_eq_some_iff.1 hK.1).1
  have hpos : 1 ≤ ns.length := by omega
  have HBAD := Lib.hid hK
  clear hK
  have hmm := @run_makeMap Try.prog
  have hcA : ∀ wx, Below w.heap.size w wx → ∀ j s, ns[j]? = some s → wx.cell? (A.add j) = some (.string s) := fun wx hb j s h => cell_later hb (hc j s h)
  have HCA := Lib.hid hcA
  clear hcA hc
  obtain ⟨i0, hi, hz0, hz1, hz2⟩ := info_parts info59
  have hms : ∀ wx : World, (Instr.makeSlice 51 (.int .i64 ns.length) (.int .i64 ns.length)).run Try.prog wx = .ok (.slice (some ⟨wx.heap.size, 0, none⟩) ns.length ns.length) (wx.alloc (.cells (cntCells (List.replicate ns.length 0)) 59)) := fun wx => by
    have h := run_make (P := Try.prog) wx 51 59 i0 _ Try.underlying51 hi hz0 .i64 .i64 ns.length ns.length (by omega) (by omega) (by rw [hz2]; omega) (by omega)
    rw [h, hz1, Int.toNat_natCast, Nat.mul_one, show (Value.agg #[.int .u64 0]).cells = #[.int .u64 0] from rfl, made_zero]
  clear hi hz0 hz1 hz2
  go_enter Try.func7, Try.ntmps7
  go_wp2_with fail
  go_cut [4] (fun v w' => ∃ b bn bm bv, v = .pointer (some ⟨b, 0, none⟩) ∧ MadeAt w w' b bn bm bv ns)
  case first =>
    go_region_with (go_at_call 17; refine (clone_any A c ns _ (HCA.out _ (by repeat (first | exact Below.refl _ _ | refine Below.alloc ?_ (by simp) _ | refine Below.drew ?_))) hn).mono ?_; rintro e w1 ⟨g, cap, rfl, hown, hb⟩)
    all_goals go_wp2
    all_goals go_meet
    all_goals
      replace hb := below_undrew hb
      replace hown := owns_undrew hown
      have hsz := hb.size
      try simp only [World.size_alloc] at hsz
      refine made_ex (n := ns.length) (c := cap) (by (try simp only [World.size_alloc]) <;> omega) rfl ?_ ?_ ?_ (by omega) (by omega) ?_
      · repeat apply World.ownsRow.alloc
        exact owns_lower hown (by (try simp only [World.size_alloc]) <;> omega)
      · repeat (first | exact heap_new _ (by (try simp only [World.size_alloc]) <;> omega) | refine heap_old _ (by (try simp only [World.size_alloc]) <;> omega) ?_ | refine (hb.block _ (by (try simp only [World.size_alloc]) <;> omega)).trans ?_)
      · repeat (first | exact heap_new _ (by (try simp only [World.size_alloc]) <;> omega) | refine heap_old _ (by (try simp only [World.size_alloc]) <;> omega) ?_ | refine (hb.block _ (by (try simp only [World.size_alloc]) <;> omega)).trans ?_)
      · repeat (first | exact Below.refl _ _ | refine Below.alloc ?_ (by (try simp only [World.size_alloc]) <;> omega) _ | refine Below.trans ?_ (hb.mono (by (try simp only [World.size_alloc]) <;> omega)))
  case rest =>
    obtain ⟨b, bn, bm, bv, rfl, hM⟩ := hcut
    obtain ⟨⟨cc, hobj⟩, hnms, hmap, hcnt, hlbn, d1, d2, d3, d4, d5, l0, l1, l2, l3, hbel⟩ := hM
    have HB := Lib.hid hbel
    have HO := Lib.hid hobj
    have HC := Lib.hid hcnt
    have HN := Lib.hid hnms
    have hsz := hbel.size
    have hlb := lt_of_block hobj
    have hlbv := lt_of_block hcnt
    have hlbm := hmap.lt
    clear hbel hobj hcnt hnms hms hmm
    go_wp2_with fail
    go_loopw [27] (fun i wr => ∃ k : Nat, k ≤ K ∧ i = .int .i64 k ∧ wr.ownsMap (H := Unit) Try.prog 9 (plainElem Try.prog 3) bm k (atOf (ns.take k)) ∧ wc.grownBy wr (some bm))
      (fun i _ => ns.length - (intOf i).toNat)
    case atStart => exact ⟨0, Nat.zero_le _, rfl, hmap, World.grownBy.refl _ _⟩
    case round =>
      obtain ⟨k, hk, rfl, hown, hg⟩ := hrel
      have hbw : Below w.heap.size w wr := HB.out.grown hg hsz (fun q hq => by injection hq with hq; omega)
      have hobj' : wr.heap[b]? = some (.cells #[.slice (some ⟨bn, 0, none⟩) ns.length cc, .map (some bm), .slice (some ⟨bv, 0, none⟩) ns.length ns.length] 53 (0, 0)) := by
        rw [hg.block b hlb (fun e => by injection e with e; exact d4 e.symm)]; exact HO.out
      by_cases hlt : k < K
      · obtain ⟨s, hs⟩ : ∃ s, ns[k]? = some s := ⟨_, List.getElem?_eq_getElem (by omega)⟩
        have hmem : s ∈ ns := List.mem_of_getElem? hs
        have hcell := HCA.out wr hbw k s hs
        have c1 : wr.cell? ⟨b, 1, none⟩ = some (.map (some bm)) := by rw [cell_of_row wr b 1 _ _ _ hobj']; rfl
        have hkey := keyOf_string_mk Try.underlying9 (hfit s hmem)
        have htake : ns.take (k + 1) = ns.take k ++ [s] := by rw [List.take_succ_eq_append_getElem (by omega)]; rw [List.getElem?_eq_getElem (by omega)] at hs; injection hs with hs; rw [hs]
        have hnot : s ∉ ns.take k := by
          have h1 : (ns.take (k + 1)).Nodup := by
            have h0 := HBAD.out.2.1.1.sublist (List.take_sublist (k + 1) (ns.take K))
            rw [List.take_take, Nat.min_eq_left (by omega)] at h0
            exact h0
          rw [htake] at h1
          exact fun e => (List.nodup_append.1 h1).2.2 s e s (List.mem_singleton.2 rfl) rfl
        have hhas := has_no hnot
        have hmk : s ∈ ns.take K := by
          have h0 : s ∈ ns.take (k + 1) := by rw [htake]; simp
          have h1 := List.mem_of_mem_take (l := ns.take K) (i := k + 1) (a := s)
          rw [List.take_take, Nat.min_eq_left (by omega)] at h1
          exact h1 h0
        have hemp : s.toList.isEmpty = false := empty_no (HBAD.out.2.1.2 s hmk)
        have HT := Lib.hid htake
        have HHAS := Lib.hid hhas
        have HOB := Lib.hid hobj'
        have HBW := Lib.hid hbw
        have HG := Lib.hid hg
        have hkm : k < maxLen := by unfold maxLen; omega
        have hat := atOf_snoc (ns.take k) s
        rw [← htake, List.length_take, Nat.min_eq_left (by omega)] at hat
        have HAT := Lib.hid hat
        have hkl2 : (k : Int) < ns.length := by omega
        clear hs hmem htake hnot hhas hobj' hbw hg hat hmk
        go_wp2_with (first
          | (at_lookup; refine wpList_lookup_own_ok_int _ rfl _ _ 50 rfl 9 3 .i64 law9 Try.underlying50 Try.underlying3 (zero3 _) bm _ _ rfl hown _ _ rfl hkey ?_; intro c _ _; have hhas := HHAS.out; rw [show (Lit.string s.data.toList) = key s from rfl, hhas]; clear hhas)
          | (at_mapUpdate; refine wpList_mapUpdate_own _ rfl _ _ _ 50 rfl 9 3 law9 Try.underlying50 _ bm k _ rfl hown hkm _ _ _ rfl rfl hkey _ [] (plainElem_int Try.underlying3 (WalkArith.wf_i64 (by omega))) ?_; intro w1 hown1 hgr1))
        have hg2 := grown_trans HG.out hgr1
        have hown2 : w1.ownsMap (H := Unit) Try.prog 9 (plainElem Try.prog 3) bm (k + 1) (atOf (ns.take (k + 1))) := by rw [HAT.out]; exact hown1
        clear hgr1 hown1 hown
        go_roundw
        case rel => exact ⟨k + 1, by omega, by go_num, hown2, hg2⟩
        case measure => simp [intOf]; omega
      · obtain rfl : k = K := by omega
        have hcell := HCA.out wr hbw k z HBAD.out.1
        have c1 : wr.cell? ⟨b, 1, none⟩ = some (.map (some bm)) := by rw [cell_of_row wr b 1 _ _ _ hobj']; rfl
        have hkey := keyOf_string_mk Try.underlying9 (hfit z (List.mem_of_getElem? HBAD.out.1))
        have HBW := Lib.hid hbw
        have hkl2 : (k : Int) < ns.length := by omega
        by_cases hin : z ∈ ns.take k
        · have HHAS := Lib.hid (has_yes hin)
          clear hobj' hbw hg hin
          go_wp2_with (first
            | (at_lookup; refine wpList_lookup_own_ok_int _ rfl _ _ 50 rfl 9 3 .i64 law9 Try.underlying50 Try.underlying3 (zero3 _) bm _ _ rfl hown _ _ rfl hkey ?_; intro c _ _; have hhas := HHAS.out; rw [show (Lit.string z.data.toList) = key z from rfl, hhas]; clear hhas))
          go_ret2
          exact ⟨rfl, HBW.out⟩
        · have HHAS := Lib.hid (has_no hin)
          have hemp : z.toList.isEmpty = true := empty_yes (HBAD.out.2.2.resolve_right hin)
          clear hobj' hbw hg hin
          go_wp2_with (first
            | (at_lookup; refine wpList_lookup_own_ok_int _ rfl _ _ 50 rfl 9 3 .i64 law9 Try.underlying50 Try.underlying3 (zero3 _) bm _ _ rfl hown _ _ rfl hkey ?_; intro c _ _; have hhas := HHAS.out; rw [show (Lit.string z.data.toList) = key z from rfl, hhas]; clear hhas))
          go_ret2
          exact ⟨rfl, HBW.out⟩
end Go.Proofs.Ytackgcbfpkndjaa
