/- The walk of the laws' flip. Conditions: the tree is ours; the row lies as Go's slices do. -/
import Derived.Test.YtibgfmkgojeefaaK
namespace Go.Proofs.Ytibgfmkgojeefaa
open Go.RowKit Go.Maps Go.WideMaps Go.ChangeShapes Go.WideShapes Go.Deep

def FlipsPost (w : World) (b : Nat) (lv m : Nat → Nat) (e : Ending) (w' : World) : Prop := e = .returned (.agg (arr m)) ∧ Tr w' b lv ∧ w.grownBy w' (some b)
theorem info27 (m : Nat → Nat) : (Try.prog.info? 27).map (·.size) = some (arr m).size := by rw [arr_size]; kernel_rfl
theorem grown_own {a w : World} {row : Option Nat} (h : a.grownBy w row) {p : Addr} (hp : a.heap.size ≤ p.block) (u : Value) : a.grownBy (w.setCell p u).drew row :=
  ⟨h.os, h.tape, h.output, by show a.heap.size ≤ (w.setCell p u).heap.size; rw [size_setCell]; exact h.size, fun k hk hr => (Below.heap_setCell _ _ _ _ (by omega)).trans (h.block k hk hr)⟩
theorem grown_setRow {a w : World} {row : Option Nat} (h : a.grownBy w row) {g : Nat} (hp : a.heap.size ≤ g) (cs : Array Value) : a.grownBy (w.setRow g cs) row :=
  ⟨h.os, h.tape, h.output, by simpa [World.setRow] using h.size, fun k hk hr => (setRow_other w g k cs (by omega)).trans (h.block k hk hr)⟩
set_option maxRecDepth 100000 in
set_option maxHeartbeats 1000000 in
theorem flips_any {w : World} {b : Nat} {lv : Nat → Nat} (h : Tr w b lv) (a : Option Addr) (len cap : Nat) (L : List FlipV) (hrow : RowOf cells39 2 ok39 w a len cap L) (hr : len * 16 ≤ 140737488351232) (hab : ∀ g o, 0 < len → a = some ⟨g, o, none⟩ → g ≠ b) :
    Calls Try.prog 11 #[.pointer (some ⟨b, 0, none⟩), .slice a len cap] w fun e w' => FlipsPost w b (flips lv (L.take 101)) (flips (fun _ => 0) (L.take 101)) e w' := by
  have HT := Lib.hid h
  have HR := Lib.hid hrow
  have HAB := Lib.hid hab
  have HB0 := Lib.hid h.lt
  clear h hrow hab
  have hb27 := build27
  have hb39 := build39
  go_enter Try.func11, Try.ntmps11
  go_wp2_with fail
  go_loopw [10] (fun v wr => ∃ k : Nat, k ≤ len ∧ k ≤ 101 ∧ v = .int .i64 k ∧ Tr wr b (flips lv (L.take k)) ∧ ArrAt wr (w.heap.size + 1) (flips (fun _ => 0) (L.take k)) ∧ ArrAt wr w.heap.size (fun _ => 0) ∧ w.grownBy wr (some b) ∧ w.heap.size + 2 ≤ wr.heap.size) (fun v _ => len - (intOf v).toNat)
  case atStart =>
    have hb : Below w.heap.size w ((w.alloc (.cells (arr (fun _ => 0)) 27)).alloc (.cells (arr (fun _ => 0)) 27)) := ((Below.refl _ _).alloc (Nat.le_refl _) _).alloc (by simp) _
    refine ⟨0, Nat.zero_le _, Nat.zero_le _, rfl, HT.out.below hb, ⟨?_⟩, ⟨?_⟩, ⟨hb.os, hb.tape, hb.output, hb.size, fun k hk _ => hb.block k hk⟩, ?_⟩
    · have h := heap_alloc_new (w.alloc (.cells (arr (fun _ => 0)) 27)) (.cells (arr (fun _ => 0)) 27)
      rw [st_size] at h
      exact h
    · rw [Below.heap_alloc _ _ _ (by rw [st_size]; omega)]
      exact heap_alloc_new _ _
    · rw [st_size, st_size]; omega
  case round =>
    obtain ⟨k, hk, hk1, rfl, hT, hM, hZ, hg, hs⟩ := hrel
    by_cases hlt : k < len
    · obtain ⟨f, hf⟩ : ∃ f, L[k]? = some f := ⟨_, List.getElem?_eq_getElem (by rw [HR.out.size]; exact hlt)⟩
      obtain ⟨bo, oo, rfl, hcell⟩ := HR.out.cell k f hf
      have hbo := HAB.out bo oo (by omega) rfl
      obtain ⟨fi, fx⟩ := f
      have c0 : w.cell? ⟨bo, oo + k * 2, none⟩ = some (.int .i64 fi) := hcell 0 _ rfl
      have c1 : w.cell? ⟨bo, oo + k * 2 + 1, none⟩ = some (.int .u64 fx) := hcell 1 _ rfl
      have d0 := hg.cell c0 (fun e => hbo (Option.some.inj e))
      have d1 := hg.cell c1 (fun e => hbo (Option.some.inj e))
      have hok := HR.out.good _ (List.mem_of_getElem? hf)
      have hstep := flips_more lv L k _ hf
      have hstep0 := flips_more (fun _ => 0) L k _ hf
      have HF := Lib.hid hf
      have HT := Lib.hid hT
      have HM := Lib.hid hM
      have HZ := Lib.hid hZ
      have HG := Lib.hid hg
      have HOK := Lib.hid hok
      have HS := Lib.hid hs
      have HS0 := Lib.hid hstep
      have HS1 := Lib.hid hstep0
      clear hcell c0 c1 hf hT hM hZ hg hbo hok hs hstep hstep0
      by_cases h100 : k ≤ 100
      · by_cases hin : 0 ≤ fi ∧ fi < 64
        · obtain ⟨i, rfl⟩ := Int.eq_ofNat_of_zero_le hin.1
          have hfl := flip_any ((HT.out.below ((Below.refl _ _).alloc (Nat.le_refl _) (.cells #[.int .i64 (i : Int), .int .u64 (fx : Int)] 39)))) i (by omega) fx HOK.out.2.2
          have HFL := Lib.hid hfl
          clear hfl
          go_wp2_with fail
          refine (HFL.out).mono ?_
          rintro e w2 ⟨rfl, hT2, hg2⟩
          have hba : Below wr.heap.size wr (wr.alloc (.cells #[.int .i64 (i : Int), .int .u64 (fx : Int)] 39)) := (Below.refl _ _).alloc (Nat.le_refl _) _
          have q0 : (wr.alloc (.cells #[.int .i64 (i : Int), .int .u64 (fx : Int)] 39)).cell? ⟨wr.heap.size, 0, none⟩ = some (.int .i64 (i : Int)) := cell_new rfl _ _ 0
          have q1 : (wr.alloc (.cells #[.int .i64 (i : Int), .int .u64 (fx : Int)] 39)).cell? ⟨wr.heap.size, 1, none⟩ = some (.int .u64 (fx : Int)) := cell_new rfl _ _ 1
          have hbl := HT.out.lt
          have r0 := hg2.cell q0 (fun e => by have : wr.heap.size = b := Option.some.inj e; omega)
          have r1 := hg2.cell q1 (fun e => by have : wr.heap.size = b := Option.some.inj e; omega)
          have hwb : b < w.heap.size := HB0.out
          have hM2 := (HM.out.below hba).other hg2 (by omega)
          have hZ2 := (HZ.out.below hba).other hg2 (by omega)
          have hgg : w.grownBy w2 (some b) := grown_trans (grown_trans HG.out (World.grownBy_alloc _ _ _)) hg2
          have m0 := hM2.cell (j := i) (by omega)
          have mf := hM2.free i
          have hml : flips (fun _ => 0) (L.take k) i < 2 ^ 64 := flips_lt (fun f hf => (HR.out.good f (List.mem_of_mem_take hf)).2.2) (lv := fun _ => 0) (fun _ => by decide) i
          have hxr := Mx.xorI _ fx hml HOK.out.2.2
          have hin1 : (i : Int) < 64 := hin.2
          have hin0 : (0 : Int) ≤ (i : Int) := by omega
          have hsT : flips lv (L.take (k + 1)) = turn (flips lv (L.take k)) i fx := by rw [HS0.out, flipStep_in ⟨by show (0 : Int) ≤ (i : Int); omega, hin1⟩]; rfl
          have hsM : flips (fun _ => 0) (L.take (k + 1)) = turn (flips (fun _ => 0) (L.take k)) i fx := by rw [HS1.out, flipStep_in ⟨by show (0 : Int) ≤ (i : Int); omega, hin1⟩]; rfl
          have hM3 := hM2.turned i fx (by omega)
          have hsz2 := HS.out
          have hgs := hg2.size
          have hgz : w.heap.size + 2 ≤ w2.heap.size := by rw [st_size] at hgs; omega
          rw [← hsM] at hM3
          obtain ⟨y, hy⟩ : ∃ y, y = flips (fun _ => 0) (L.take k) i ^^^ fx := ⟨_, rfl⟩
          obtain ⟨z, hz⟩ : ∃ z, z = flips (fun _ => 0) (L.take k) i := ⟨_, rfl⟩
          rw [← hy, ← hz] at hxr
          rw [← hy] at hM3
          rw [← hz] at m0
          have HM3 := Lib.hid hM3
          have HST := Lib.hid hsT
          have HT3 := Lib.hid hT2
          have HZ3 := Lib.hid hZ2
          have HGG := Lib.hid hgg
          have HGZ := Lib.hid hgz
          have hwb' := Lib.hid hwb
          clear hM3 hsT hsM hT2 hZ2 hM2 hgg hgz hsz2 hgs hy hz hml hin hba q0 q1 hbl hwb hg2 d0 d1 HM HZ HG HS0 HS1 HFL
          go_wp2_with fail
          go_region
          go_wp2_with fail
          refine ⟨⟨k + 1, by omega, by omega, by go_num, ?_, ⟨HM3.out.blk⟩, ?_, grown_own HGG.out (by show w.heap.size ≤ w.heap.size + 1; omega) _, ?_⟩, ?_⟩
          · rw [HST.out]
            exact HT3.out.heap (Below.heap_setCell _ _ _ _ (by have := hwb'.out; show b ≠ w.heap.size + 1; omega))
          · exact ⟨(Below.heap_setCell _ _ _ _ (by show w.heap.size ≠ w.heap.size + 1; omega)).trans HZ3.out.blk⟩
          · show w.heap.size + 2 ≤ (w2.setCell ⟨w.heap.size + 1, i, none⟩ (Value.int IntKind.u64 y)).heap.size
            rw [size_setCell]; exact HGZ.out
          · simp [intOf]; omega
        · have hfl := flip_bad b fi fx (by omega)
          have HFL := Lib.hid hfl
          clear hfl
          go_wp2_with fail
          refine (HFL.out _).mono ?_
          rintro e w2 ⟨rfl, rfl⟩
          go_wp2_with fail
          go_roundw
          case rel =>
            have hba : Below wr.heap.size wr (wr.alloc (.cells #[.int .i64 fi, .int .u64 (fx : Int)] 39)) := (Below.refl _ _).alloc (Nat.le_refl _) _
            refine ⟨k + 1, by omega, by omega, by go_num, ?_, ?_, HZ.out.below hba, grown_trans HG.out (World.grownBy_alloc _ _ _), ?_⟩
            · rw [HS0.out, flipStep_out hin]; exact HT.out.below hba
            · rw [HS1.out, flipStep_out hin]; exact HM.out.below hba
            · have := HS.out; rw [st_size]; omega
          case measure => simp [intOf]; omega
      · obtain rfl : k = 101 := by omega
        have hba : Below wr.heap.size wr (wr.alloc (.cells #[.int .i64 fi, .int .u64 (fx : Int)] 39)) := (Below.refl _ _).alloc (Nat.le_refl _) _
        have hM2 := HM.out.below hba
        have hZ2 := HZ.out.below hba
        have hT2 := Lib.hid (HT.out.below hba)
        have hg2 := Lib.hid (grown_trans HG.out (World.grownBy_alloc wr (.cells #[.int .i64 fi, .int .u64 (fx : Int)] 39) (some b)))
        have HM2 := Lib.hid hM2.blk
        have HZ2 := Lib.hid hZ2.blk
        have HE := Lib.hid (hZ2.stored (m' := flips (fun _ => 0) (L.take 101))).blk
        have hu27 := Try.underlying27
        clear hba hM2 hZ2 HM HZ HT HG
        go_wp2_with (first
          | (refine wpList_load_row rfl 27 _ rfl (w.heap.size + 1) rfl 27 _ (0, 0) _ HM2.out hu27 rfl (info27 _) ?_)
          | (refine wpList_store_row rfl 27 _ _ rfl w.heap.size (arr (flips (fun _ => 0) (L.take 101))) rfl rfl 27 _ HZ2.out (info27 _) (by rw [arr_size, arr_size]) (arr_one _) ?_))
        refine bodyPost_ret (results_cell_row rfl _ _ w.heap.size 27 _ (0, 0) _ rfl HE.out Try.underlying27 rfl (info27 _)) rfl ?_
        exact ⟨rfl, hT2.out.heap (setRow_other _ _ _ _ (by have := HB0.out; omega)), grown_setRow hg2.out (Nat.le_refl _) _⟩
    · obtain rfl : k = len := by omega
      have hLt : L.take 101 = L.take k := by
        rw [List.take_of_length_le (by rw [HR.out.size]; omega), List.take_of_length_le (by rw [HR.out.size]; omega)]
      rw [← hLt] at hM hT
      have HM2 := Lib.hid hM.blk
      have HZ2 := Lib.hid hZ.blk
      have HE := Lib.hid (hZ.stored (m' := flips (fun _ => 0) (L.take 101))).blk
      have HT2 := Lib.hid hT
      have HG2 := Lib.hid hg
      have hu27 := Try.underlying27
      clear hM hZ hT hg hs hLt
      go_wp2_with (first
        | (refine wpList_load_row rfl 27 _ rfl (w.heap.size + 1) rfl 27 _ (0, 0) _ HM2.out hu27 rfl (info27 _) ?_)
        | (refine wpList_store_row rfl 27 _ _ rfl w.heap.size (arr (flips (fun _ => 0) (L.take 101))) rfl rfl 27 _ HZ2.out (info27 _) (by rw [arr_size, arr_size]) (arr_one _) ?_))
      refine bodyPost_ret (results_cell_row rfl _ _ w.heap.size 27 _ (0, 0) _ rfl HE.out Try.underlying27 rfl (info27 _)) rfl ?_
      exact ⟨rfl, HT2.out.heap (setRow_other _ _ _ _ (by have := HB0.out; omega)), grown_setRow HG2.out (Nat.le_refl _) _⟩
end Go.Proofs.Ytibgfmkgojeefaa
