/- The contract of slices.Clone at a list of texts, and of New. Conditions: at most 4096 names. -/
import Derived.Test.YtackgcbfpkndjaaD
import Derived.Deep.DeepCutAuto
import Derived.BigRegion
import Derived.Deep.RegionWith
namespace Go.Proofs.Ytackgcbfpkndjaa
open Go.RowKit Go.Maps Go.WideMaps

def ClonePost (w : World) (ns : List ByteArray) (e : Ending) (w' : World) : Prop := ∃ g cap, e = .returned (.slice (some ⟨g, 0, none⟩) ns.length cap) ∧ w'.ownsRow w.heap.size 9 1 (.slice (some ⟨g, 0, none⟩) ns.length cap) ns.length (ns.map Value.string) ∧ Below w.heap.size w w'

theorem clone_any (A : Addr) (c : Nat) (ns : List ByteArray) (w : World) (hc : ∀ j s, ns[j]? = some s → w.cell? (A.add j) = some (.string s)) (hn : ns.length ≤ 4096) :
    Calls Try.prog 17 #[.slice (some A) ns.length c] w fun e w' => ClonePost w ns e w' := by
  obtain ⟨i0, hi, hz0, hz1, hz2⟩ := info_parts info9
  have heq := fun (wx : World) => Lib.run_eql_slice_nil (P := Try.prog) wx 27 9 (some A) ns.length c 0 0 Try.underlying27
  have hown : (w.alloc (.cells #[] 9)).ownsRow w.heap.size 9 1 (.slice (some ⟨w.heap.size, 0, none⟩) 0 0) 0 [] := World.ownsRow_lit w #[] 0 (Nat.le_refl _) (Nat.zero_le _) rfl
  go_enter Try.func17, Try.ntmps17
  go_wp2_with (first
    | (at_builtin; refine wpList_append_own _ rfl _ _ 27 rfl w.heap.size 9 i0 (.string ⟨#[]⟩) 1 16 Try.underlying27 hi hz0 hz1 hz2 rfl (by decide) _ _ _ rfl hown A ns.length c (ns.map Value.string) rfl (by simp) ?c1 ?c2 ?c3 ?c4 ?c5 ?_))
  case c1 =>
    intro j u hj
    rw [List.getElem?_map] at hj
    obtain ⟨s, hs, rfl⟩ := Option.map_eq_some_iff.1 hj
    have h1 := hc j s hs
    exact (World.cell?_alloc_lt w _ _ (World.block_lt_of_cell? w _ h1)).trans h1
  case c2 => intro u hu; simp at hu; obtain ⟨s, _, rfl⟩ := hu; rfl
  case c3 => unfold maxLen; omega
  case c4 => omega
  case c5 => simp
  intro v' w1 hown1 hgr hnil
  have hb : Below w.heap.size w w1 := ((Below.refl _ _).alloc (Nat.le_refl _) _).grown hgr (by simp) (fun q hq => by simp [Value.ownBlock] at hq; omega)
  clear hgr hc heq hown
  have HV := Lib.hid hnil
  clear hnil
  go_wp2
  go_ret
  obtain ⟨g, cap, hv⟩ : ∃ g cap, v' = .slice (some ⟨g, 0, none⟩) ns.length cap := by
    rcases hown1.2 with ⟨e, _⟩ | ⟨g, cap, cur, e, _⟩
    · exact absurd e HV.out
    · exact ⟨g, cap, e⟩
  rw [hv] at hown1 ⊢
  exact ⟨g, cap, rfl, hown1, hb⟩

theorem made_zero (n : Nat) : madeCells #[.int .u64 0] n = cntCells (List.replicate n 0) := by
  apply Array.ext'
  rw [toList_madeCells_one]
  simp [cntCells]

/-- What New answers where the names may be: a Counts of noughts, in new memory. -/
def NewPost (w : World) (ns : List ByteArray) (e : Ending) (w' : World) : Prop :=
  ∃ b bn bm bv, e = .returned (.tuple #[.pointer (some ⟨b, 0, none⟩), .int .i64 0]) ∧ CountsAt w' b bn bm bv ns (List.replicate ns.length 0) ∧
    w.heap.size ≤ b ∧ w.heap.size ≤ bn ∧ w.heap.size ≤ bm ∧ w.heap.size ≤ bv ∧ Below w.heap.size w w'

/-- Behind the making of the object: nothing is in the map. -/
def MadeAt (w0 w : World) (b bn bm bv : Nat) (ns : List ByteArray) : Prop :=
  (∃ c, w.heap[b]? = some (.cells #[.slice (some ⟨bn, 0, none⟩) ns.length c, .map (some bm), .slice (some ⟨bv, 0, none⟩) ns.length ns.length] 53 (0, 0))) ∧
  (∀ (j : Nat) (s : ByteArray), ns[j]? = some s → w.cell? ⟨bn, j, none⟩ = some (.string s)) ∧
  w.ownsMap (H := Unit) Try.prog 9 (plainElem Try.prog 3) bm 0 (atOf []) ∧
  w.heap[bv]? = some (.cells (cntCells (List.replicate ns.length 0)) 59 (0, 0)) ∧
  bn < w.heap.size ∧ bv ≠ b ∧ bv ≠ bn ∧ bv ≠ bm ∧ bm ≠ b ∧ bm ≠ bn ∧ w0.heap.size ≤ b ∧ w0.heap.size ≤ bn ∧ w0.heap.size ≤ bm ∧ w0.heap.size ≤ bv ∧ Below w0.heap.size w0 w

/-- The four blocks of a new object, however they were made. -/
theorem made_of {w0 w : World} {b bn bm bv n : Nat} {c : Nat} {ns : List ByteArray} (hn : n = ns.length)
    (hobj : w.heap[b]? = some (.cells #[.slice (some ⟨bn, 0, none⟩) n c, .map (some bm), .slice (some ⟨bv, 0, none⟩) n n] 53 (0, 0)))
    (hrow : w.ownsRow w0.heap.size 9 1 (.slice (some ⟨bn, 0, none⟩) n c) n (ns.map Value.string))
    (hmap : w.heap[bm]? = some (.map #[] 0)) (hcnt : w.heap[bv]? = some (.cells (cntCells (List.replicate n 0)) 59 (0, 0)))
    (h0 : w0.heap.size ≤ b) (h2 : w0.heap.size ≤ bm) (h3 : w0.heap.size ≤ bv) (hb : Below w0.heap.size w0 w) : MadeAt w0 w b bn bm bv ns := by
  subst hn
  have hlt := hrow.lt bn rfl
  obtain ⟨cur, fr, hcur⟩ : ∃ cur fr, w.heap[bn]? = some (.cells cur 9 fr) := by
    rcases hrow.2 with ⟨e, _⟩ | ⟨g, cap, cur, e, _, hg, _⟩
    · simp at e
    · simp only [Value.slice.injEq, Option.some.injEq, Addr.mk.injEq, and_true, true_and] at e
      obtain ⟨rfl, rfl⟩ := e
      exact ⟨cur, _, hg⟩
  refine ⟨⟨c, hobj⟩, fun j s hj => ?_, ?_, hcnt, hlt.2, ?_, ?_, ?_, ?_, ?_, h0, hlt.1, h2, h3, hb⟩
  · rw [hrow.cellAt j (by have := (List.getElem?_eq_some_iff.1 hj).1; omega), List.getElem?_map, hj]
    rfl
  · have hm := World.ownsMap_made (H := Unit) w Try.prog 9 (plainElem Try.prog 3)
    obtain ⟨es, clock, he, hfit, hsz, hD⟩ := hm
    rw [heap_alloc_new] at he
    obtain ⟨rfl, rfl⟩ : es = #[] ∧ clock = 0 := by simpa [eq_comm] using he
    exact ⟨#[], 0, hmap, hfit, hsz, hD⟩
  · rintro rfl; rw [hobj] at hcnt; simp at hcnt
  · rintro rfl; rw [hcur] at hcnt; simp at hcnt
  · rintro rfl; rw [hmap] at hcnt; simp at hcnt
  · rintro rfl; rw [hmap] at hobj; simp at hobj
  · rintro rfl; rw [hmap] at hcur; simp at hcur
theorem heap_new {w : World} {k : Nat} (o : Obj) (h : w.heap.size = k) : (w.alloc o).heap[k]? = some o := by subst h; exact heap_alloc_new w o
theorem heap_old {w : World} {k : Nat} {x : Option Obj} (o : Obj) (h : k < w.heap.size) (hx : w.heap[k]? = x) : (w.alloc o).heap[k]? = x := (Below.heap_alloc w o k h).trans hx

/-- As the walk shows it: the object is laid last. -/
theorem made_ex {w0 w : World} {k bn bm bv n : Nat} {c : Nat} {ns : List ByteArray} (hk : w.heap.size = k) (hn : n = ns.length)
    (hrow : w.ownsRow w0.heap.size 9 1 (.slice (some ⟨bn, 0, none⟩) n c) n (ns.map Value.string))
    (hmap : w.heap[bm]? = some (.map #[] 0)) (hcnt : w.heap[bv]? = some (.cells (cntCells (List.replicate n 0)) 59 (0, 0)))
    (h2 : w0.heap.size ≤ bm) (h3 : w0.heap.size ≤ bv) (hb : Below w0.heap.size w0 w) :
    ∃ b' bn' bm' bv', Value.pointer (some ⟨k, 0, none⟩) = Value.pointer (some ⟨b', 0, none⟩) ∧ MadeAt w0 (w.alloc (.cells #[.slice (some ⟨bn, 0, none⟩) n c, .map (some bm), .slice (some ⟨bv, 0, none⟩) n n] 53)) b' bn' bm' bv' ns :=
  ⟨k, bn, bm, bv, rfl, made_of hn (heap_new _ hk) (hrow.alloc _) (heap_old _ (lt_of_block hmap) hmap) (heap_old _ (lt_of_block hcnt) hcnt) (by rw [← hk]; exact hb.size) h2 h3 (hb.alloc hb.size _)⟩
theorem empty_no {s : ByteArray} (h : s.size ≠ 0) : s.toList.isEmpty = false := by
  rw [ByteArray.toList_eq]
  cases e : s.data.toList with
  | nil => exact absurd (by have := congrArg List.length e; rw [Array.length_toList] at this; exact this) h
  | cons a l => rfl
theorem below_undrew {w w1 : World} (h : Below w.drew.heap.size w.drew w1) : Below w.heap.size w w1 := ⟨h.os, h.tape, h.output, h.size, h.block⟩
theorem owns_undrew {w w1 : World} {e : TypeId} {s : Nat} {v : Value} {n : Nat} {xs : List Value} (h : w1.ownsRow w.drew.heap.size e s v n xs) : w1.ownsRow w.heap.size e s v n xs := h
theorem owns_lower {w1 : World} {B B' : Nat} {e : TypeId} {s : Nat} {v : Value} {n : Nat} {xs : List Value} (h : w1.ownsRow B e s v n xs) (hB : B' ≤ B) : w1.ownsRow B' e s v n xs := by
  obtain ⟨h1, h2⟩ := h
  refine ⟨h1, ?_⟩
  rcases h2 with h2 | ⟨g, cap, cur, hv, hg, r⟩
  · exact .inl h2
  · exact .inr ⟨g, cap, cur, hv, Nat.le_trans hB hg, r⟩

set_option maxHeartbeats 1000000 in
theorem new_ok (A : Addr) (c : Nat) (ns : List ByteArray) (w : World) (hc : ∀ j s, ns[j]? = some s → w.cell? (A.add j) = some (.string s)) (hn : ns.length ≤ 4096) (hpos : 1 ≤ ns.length)
    (hd : ns.Nodup) (hne : ∀ s ∈ ns, s.size ≠ 0) (hfit : ∀ s ∈ ns, s.size ≤ maxLen) :
    Calls Try.prog 7 #[.slice (some A) ns.length c] w fun e w' => NewPost w ns e w' := by
  have hmm := @run_makeMap Try.prog
  have hcA : ∀ wx, Below w.heap.size w wx → ∀ j s, ns[j]? = some s → wx.cell? (A.add j) = some (.string s) := fun wx hb j s h => cell_later hb (hc j s h)
  have HCA := Lib.hid hcA
  clear hcA hc
  obtain ⟨i0, hi, hz0, hz1, hz2⟩ := info_parts info59
  have hms : ∀ wx : World, (Instr.makeSlice 51 (.int .i64 ns.length) (.int .i64 ns.length)).run Try.prog wx = .ok (.slice (some ⟨wx.heap.size, 0, none⟩) ns.length ns.length) (wx.alloc (.cells (cntCells (List.replicate ns.length 0)) 59)) := fun wx => by
    have h := run_make (P := Try.prog) wx 51 59 i0 _ Try.underlying51 hi hz0 .i64 .i64 ns.length ns.length (by omega) (by omega) (by rw [hz2]; omega) (by omega)
    rw [h, hz1, Int.toNat_natCast, Nat.mul_one, show (Value.agg #[.int .u64 0]).cells = #[.int .u64 0] from rfl, made_zero]
  clear hi hz0 hz1 hz2
  go_enter Try.func7, Try.ntmps7
  go_wp2_with fail
  go_cut [4] (fun v w' => ∃ b bn bm bv, v = .pointer (some ⟨b, 0, none⟩) ∧ MadeAt w w' b bn bm bv ns)
  case first =>
    go_region_with (go_at_call 17; refine (clone_any A c ns _ (HCA.out _ (by repeat (first | exact Below.refl _ _ | refine Below.alloc ?_ (by simp) _ | refine Below.drew ?_))) hn).mono ?_; rintro e w1 ⟨g, cap, rfl, hown, hb⟩)
    all_goals go_wp2
    all_goals go_meet
    all_goals
      replace hb := below_undrew hb
      replace hown := owns_undrew hown
      have hsz := hb.size
      try simp only [World.size_alloc] at hsz
      refine made_ex (n := ns.length) (c := cap) (by (try simp only [World.size_alloc]) <;> omega) rfl ?_ ?_ ?_ (by omega) (by omega) ?_
      · repeat apply World.ownsRow.alloc
        exact owns_lower hown (by (try simp only [World.size_alloc]) <;> omega)
      · repeat (first | exact heap_new _ (by (try simp only [World.size_alloc]) <;> omega) | refine heap_old _ (by (try simp only [World.size_alloc]) <;> omega) ?_ | refine (hb.block _ (by (try simp only [World.size_alloc]) <;> omega)).trans ?_)
      · repeat (first | exact heap_new _ (by (try simp only [World.size_alloc]) <;> omega) | refine heap_old _ (by (try simp only [World.size_alloc]) <;> omega) ?_ | refine (hb.block _ (by (try simp only [World.size_alloc]) <;> omega)).trans ?_)
      · repeat (first | exact Below.refl _ _ | refine Below.alloc ?_ (by (try simp only [World.size_alloc]) <;> omega) _ | refine Below.trans ?_ (hb.mono (by (try simp only [World.size_alloc]) <;> omega)))
  case rest =>
    obtain ⟨b, bn, bm, bv, rfl, hM⟩ := hcut
    obtain ⟨⟨cc, hobj⟩, hnms, hmap, hcnt, hlbn, d1, d2, d3, d4, d5, l0, l1, l2, l3, hbel⟩ := hM
    have HB := Lib.hid hbel
    have HO := Lib.hid hobj
    have HC := Lib.hid hcnt
    have HN := Lib.hid hnms
    have hsz := hbel.size
    have hlb := lt_of_block hobj
    have hlbv := lt_of_block hcnt
    have hlbm := hmap.lt
    clear hbel hobj hcnt hnms hms hmm
    go_wp2_with fail
    go_loopw [27] (fun i wr => ∃ k : Nat, k ≤ ns.length ∧ i = .int .i64 k ∧ wr.ownsMap (H := Unit) Try.prog 9 (plainElem Try.prog 3) bm k (atOf (ns.take k)) ∧ wc.grownBy wr (some bm))
      (fun i _ => ns.length - (intOf i).toNat)
    case atStart => exact ⟨0, Nat.zero_le _, rfl, hmap, World.grownBy.refl _ _⟩
    case round =>
      obtain ⟨k, hk, rfl, hown, hg⟩ := hrel
      have hbw : Below w.heap.size w wr := HB.out.grown hg hsz (fun q hq => by injection hq with hq; omega)
      have hobj' : wr.heap[b]? = some (.cells #[.slice (some ⟨bn, 0, none⟩) ns.length cc, .map (some bm), .slice (some ⟨bv, 0, none⟩) ns.length ns.length] 53 (0, 0)) := by
        rw [hg.block b hlb (fun e => by injection e with e; exact d4 e.symm)]; exact HO.out
      by_cases hlt : k < ns.length
      · obtain ⟨s, hs⟩ : ∃ s, ns[k]? = some s := ⟨_, List.getElem?_eq_getElem hlt⟩
        have hmem : s ∈ ns := List.mem_of_getElem? hs
        have hcell := HCA.out wr hbw k s hs
        have c1 : wr.cell? ⟨b, 1, none⟩ = some (.map (some bm)) := by rw [cell_of_row wr b 1 _ _ _ hobj']; rfl
        have hkey := keyOf_string_mk Try.underlying9 (hfit s hmem)
        have htake : ns.take (k + 1) = ns.take k ++ [s] := by rw [List.take_succ_eq_append_getElem hlt]; rw [List.getElem?_eq_getElem hlt] at hs; injection hs with hs; rw [hs]
        have hnot : s ∉ ns.take k := by
          have h1 : (ns.take (k + 1)).Nodup := hd.sublist (List.take_sublist _ _)
          rw [htake] at h1
          exact fun e => (List.nodup_append.1 h1).2.2 s e s (List.mem_singleton.2 rfl) rfl
        have hhas := has_no hnot
        have hemp : s.toList.isEmpty = false := empty_no (hne s hmem)
        have HT := Lib.hid htake
        have HHAS := Lib.hid hhas
        have HOB := Lib.hid hobj'
        have HBW := Lib.hid hbw
        have HG := Lib.hid hg
        have hkm : k < maxLen := by unfold maxLen; omega
        have hat := atOf_snoc (ns.take k) s
        rw [← htake, List.length_take, Nat.min_eq_left hk] at hat
        have HAT := Lib.hid hat
        clear hs hmem htake hnot hhas hobj' hbw hg hat
        go_wp2_with (first
          | (at_lookup; refine wpList_lookup_own_ok_int _ rfl _ _ 50 rfl 9 3 .i64 law9 Try.underlying50 Try.underlying3 (zero3 _) bm _ _ rfl hown _ _ rfl hkey ?_; intro c _ _; have hhas := HHAS.out; rw [show (Lit.string s.data.toList) = key s from rfl, hhas]; clear hhas)
          | (at_mapUpdate; refine wpList_mapUpdate_own _ rfl _ _ _ 50 rfl 9 3 law9 Try.underlying50 _ bm k _ rfl hown hkm _ _ _ rfl rfl hkey _ [] (plainElem_int Try.underlying3 (WalkArith.wf_i64 (by omega))) ?_; intro w1 hown1 hgr1))
        have hg2 := grown_trans HG.out hgr1
        have hown2 : w1.ownsMap (H := Unit) Try.prog 9 (plainElem Try.prog 3) bm (k + 1) (atOf (ns.take (k + 1))) := by rw [HAT.out]; exact hown1
        clear hgr1 hown1 hown
        go_roundw
        case rel => exact ⟨k + 1, by omega, by go_num, hown2, hg2⟩
        case measure => simp [intOf]; omega
      · have hkn : k = ns.length := by omega
        subst hkn
        rw [List.take_of_length_le (Nat.le_refl _)] at hown
        have hC : CountsAt wr b bn bm bv ns (List.replicate ns.length 0) := by
          refine ⟨⟨cc, hobj'⟩, fun j s hj => ?_, Nat.lt_of_lt_of_le hlbn hg.size, hown, ?_, by simp, hd, hfit, ?_, hn, d1, d2, d3⟩
          · rw [World.cell?_of_block (w := wc) (hg.block bn hlbn (fun e => by injection e with e; exact d5 e.symm))]
            exact HN.out j s hj
          · rw [hg.block bv hlbv (fun e => by injection e with e; exact d3 e)]
            exact HC.out
          · intro v hv
            rw [List.mem_replicate] at hv
            omega
        have HCC := Lib.hid hC
        have HBW := Lib.hid hbw
        clear hobj' hown hC hbw hg
        go_wp2
        go_ret2
        exact ⟨b, bn, bm, bv, rfl, HCC.out, l0, l1, l2, l3, HBW.out⟩
end Go.Proofs.Ytackgcbfpkndjaa
