/- The contracts of slices.Repeat over one member, and of a fresh view. Conditions: at most 64. -/
import Derived.Test.YthpfknigommheaaVb
import Derived.Laws.CopyRow
import Derived.Laws.CopyOwn
namespace Go.Proofs.Ythpfknigommheaa
open Go.RowKit PViewTells Go.Proofs.YthpfknigommheaaW.PrintWords

theorem mul_one64 : ∀ n : Nat, n ≤ 64 → bits_Mul.f 1 n = some (0, (n : Int)) := by decide +kernel
theorem zero_two {w : World} {b : Nat} {t : TypeId} {u v : Value} (h : w.heap[b]? = some (.cells #[u, v] t (0, 0))) : w.cell? ⟨b, 0, none⟩ = some u ∧ w.cell? ⟨b, 1, none⟩ = some v ∧ w.frozen? ⟨b, 0, none⟩ = false ∧ w.frozen? ⟨b, 1, none⟩ = false :=
  ⟨by rw [cell_of_row w b 0 _ _ _ h]; rfl, by rw [cell_of_row w b 1 _ _ _ h]; rfl, frozen_of_row w b 0 _ _ h, frozen_of_row w b 1 _ _ h⟩
theorem run_copy_at {P : Program} (w : World) (dT sT ty elem : TypeId) (g off dLen dCap : Nat) (a : Addr) (sLen sCap : Nat) (cur : Array Value) (t : TypeId) (cs : List Value) (sz m : Nat)
    (hu : P.underlying dT = some (.slice elem)) (hs : (P.info? elem).map (·.size) = some sz)
    (hg : w.heap[g]? = some (.cells cur t (0, 0))) (hm : Nat.min sLen dLen = m) (hn : cs.length = m * sz)
    (hsrc : ∀ j v, cs[j]? = some v → w.cell? (a.add j) = some v) (hfit : off + cs.length ≤ cur.size) (h1 : ∀ v ∈ cs, v.oneCell' = true) :
    (Builtin.copy_ #[dT, sT] ty #[.slice (some ⟨g, off, none⟩) dLen dCap, .slice (some a) sLen sCap]).run P w =
      .ok (goInt m) (w.setRow g (cur.toList.take off ++ cs ++ cur.toList.drop (off + cs.length)).toArray) := by
  have hl := run_loadCells_list (P := P) w a cs hsrc
  have hst := run_storeCells_at P g off t cs 0 cur w hg (by simpa using hfit) h1
  simp only [Nat.add_zero] at hst
  cases hq : P.info? elem with
  | none => simp [hq] at hs
  | some i =>
    have hi : i.size = sz := by simpa [hq] using hs
    subst hm
    simp [Builtin.copy_, run_underlying hu, Builtin.lenOf, Builtin.firstCells, sizeOf, typeInfo, hq, hi, ← hn, hl, hst]
def one : S33 := ⟨1, 0⟩
theorem info33s : (Try.prog.info? 33).map (·.size) = some 2 := by kernel_rfl
/-- The first k of n members of block b are new ones. -/
structure Ones (w : World) (b n k : Nat) : Prop where
  ex : ∃ cur : Array Value, w.heap[b]? = some (.cells cur 33 (0, 0)) ∧ cur.size = n * 2 ∧ cur.toList.take (k * 2) = memC (List.replicate k one)
theorem memC_rep (a b : Nat) : memC (List.replicate (a + b) one) = memC (List.replicate a one) ++ memC (List.replicate b one) := by
  rw [← List.replicate_append_replicate]; exact List.flatMap_append
theorem Ones.src {w : World} {b n k m : Nat} (h : Ones w b n k) (hm : m ≤ k) (hk : k ≤ n) : ∀ (j : Nat) (v : Value), (memC (List.replicate m one))[j]? = some v → w.cell? ((⟨b, 0, none⟩ : Addr).add j) = some v := by
  intro j v hj
  obtain ⟨cur, h1, h2, h3⟩ := h.ex
  rw [add_at, Nat.zero_add, cell_of_row w b j _ _ _ h1]
  obtain ⟨q, rfl⟩ : ∃ q, k = m + q := ⟨k - m, by omega⟩
  rw [memC_rep] at h3
  have hlt := (List.getElem?_eq_some_iff.1 hj).1
  have hl : (memC (List.replicate m one)).length = m * 2 := by rw [show memC (List.replicate m one) = (List.replicate m one).flatMap cells33 from rfl, flat_len len33, List.length_replicate]
  have : (cur.toList.take ((m + q) * 2))[j]? = some v := by rw [h3, List.getElem?_append_left hlt]; exact hj
  rw [List.getElem?_take, if_pos (by omega)] at this
  rw [← this]
  simp
theorem wp_copy_ones {w w0 : World} {o : Oper} {a : Act} {K : Act → World → Prop} {Q : Exit → Act → World → Prop} (d s : Operand)
    (ho : o.op = .call { callee := .builtin .copy, args := #[d, s], argTypes := #[22, 22] }) (b n k m : Nat) (ad : Addr) (dLen dCap sLen sCap : Nat)
    (hd : a.eval d = .slice (some ⟨b, k * 2, none⟩) dLen dCap) (hs : a.eval s = .slice (some ad) sLen sCap) (hm : Nat.min sLen dLen = m) (hkm : k + m ≤ n)
    (hones : Ones w b n k) (hsrc : ∀ (j : Nat) (v : Value), (memC (List.replicate m one))[j]? = some v → w.cell? (ad.add j) = some v) (hb : Below w0.heap.size w0 w) (hBg : w0.heap.size ≤ b)
    (h : ∀ w', Ones w' b n (k + m) → Below w0.heap.size w0 w' → K (a.put o.dst (.int .i64 m)) w') : o.wp Try.prog a w K Q := by
  obtain ⟨cur, h1, h2, h3⟩ := hones.ex
  have hl : (memC (List.replicate m one)).length = m * 2 := by rw [show memC (List.replicate m one) = (List.replicate m one).flatMap cells33 from rfl, flat_len len33, List.length_replicate]
  have hlk : (memC (List.replicate k one)).length = k * 2 := by rw [show memC (List.replicate k one) = (List.replicate k one).flatMap cells33 from rfl, flat_len len33, List.length_replicate]
  have hrun := run_copy_at (P := Try.prog) w 22 22 o.type 33 b (k * 2) dLen dCap ad sLen sCap cur 33 (memC (List.replicate m one)) 2 m Try.underlying22 info33s h1 hm hl hsrc (by rw [hl, h2]; omega) (memC_one _)
  unfold Oper.wp
  simp [execOp, ho, resolve, invoke, builtin, hd, hs, hrun, Result.andThen]
  refine (h _ ⟨_, setRow_heap w b cur _ 33 _ h1, ?_, ?_⟩ (below_setRow hb hBg _))
  · simp [hl, h2]; omega
  · show List.take ((k + m) * 2) (cur.toList.take (k * 2) ++ (memC (List.replicate m one) ++ cur.toList.drop (k * 2 + (memC (List.replicate m one)).length))) = _
    rw [h3, Nat.add_mul, memC_rep, ← List.append_assoc, ← hlk, ← hl]
    rw [← List.length_append, List.take_left]
theorem wpList_copy_ones {w w0 : World} {ops : Array Oper} {rest : List Oper} {o : Oper} {a : Act} {Q : Exit → Act → World → Prop} (hgd : o.guard = none) (d s : Operand)
    (ho : o.op = .call { callee := .builtin .copy, args := #[d, s], argTypes := #[22, 22] }) (b n k m : Nat) (ad : Addr) (dLen dCap sLen sCap : Nat)
    (hd : a.eval d = .slice (some ⟨b, k * 2, none⟩) dLen dCap) (hs : a.eval s = .slice (some ad) sLen sCap) (hm : Nat.min sLen dLen = m) (hkm : k + m ≤ n)
    (hones : Ones w b n k) (hsrc : ∀ (j : Nat) (v : Value), (memC (List.replicate m one))[j]? = some v → w.cell? (ad.add j) = some v) (hb : Below w0.heap.size w0 w) (hBg : w0.heap.size ≤ b)
    (h : ∀ w', Ones w' b n (k + m) → Below w0.heap.size w0 w' → wpList Try.prog ops Q rest (a.put o.dst (.int .i64 m)) w') : wpList Try.prog ops Q (o :: rest) a w :=
  wpList_plain hgd fun _ hK => wp_copy_ones d s ho b n k m ad dLen dCap sLen sCap hd hs hm hkm hones hsrc hb hBg fun w' h1 h2 => hK _ _ (h w' h1 h2)
theorem step_copy_ones {w w0 : World} {ops : Array Oper} {o : Oper} {a : Act} {K : Act → World → Prop} {Q : Exit → Act → World → Prop} {E : Prop} (hgd : o.guard = none) (d s : Operand)
    (ho : o.op = .call { callee := .builtin .copy, args := #[d, s], argTypes := #[22, 22] }) (b n k m : Nat) (ad : Addr) (dLen dCap sLen sCap : Nat)
    (hd : a.eval d = .slice (some ⟨b, k * 2, none⟩) dLen dCap) (hs : a.eval s = .slice (some ad) sLen sCap) (hm : Nat.min sLen dLen = m) (hkm : k + m ≤ n)
    (hones : Ones w b n k) (hsrc : ∀ (j : Nat) (v : Value), (memC (List.replicate m one))[j]? = some v → w.cell? (ad.add j) = some v) (hb : Below w0.heap.size w0 w) (hBg : w0.heap.size ≤ b)
    (h : ∀ w', Ones w' b n (k + m) → Below w0.heap.size w0 w' → K (a.put o.dst (.int .i64 m)) w') : if Region.wanted o (yielded ops a.tmps) = true then Oper.wp Try.prog o a w K Q else E := by
  have hw : Region.wanted o (yielded ops a.tmps) = true := by simp [Region.wanted, hgd]
  rw [if_pos hw]
  exact wp_copy_ones d s ho b n k m ad dLen dCap sLen sCap hd hs hm hkm hones hsrc hb hBg h
theorem Ones.own {w : World} {b n B : Nat} (h : Ones w b n n) (hn : n ≤ 64) (hB : B ≤ b) : MemO w B (.slice (some ⟨b, 0, none⟩) n n) (List.replicate n one) := by
  obtain ⟨cur, h1, h2, h3⟩ := h.ex
  unfold MemO
  rw [List.length_replicate]
  refine ⟨by rw [show memC (List.replicate n one) = (List.replicate n one).flatMap cells33 from rfl, flat_len len33, List.length_replicate], .inr ⟨b, n, cur, rfl, hB, h1, Nat.le_refl _, by unfold maxLen; omega, h2, h3⟩⟩
set_option maxRecDepth 100000 in
set_option maxHeartbeats 1000000 in
theorem repeat_any (g o c n : Nat) (hn1 : 1 ≤ n) (hn : n ≤ 64) (w : World) (c0 : w.cell? ⟨g, o, none⟩ = some (.int .u8 1)) (c1 : w.cell? ⟨g, o + 1, none⟩ = some (.int .u32 0)) :
    Calls Try.prog 26 #[.slice (some ⟨g, o, none⟩) 1 c, .int .i64 n] w fun e w' => MemPost w (List.replicate n one) e w' := by
  have hmul := Lib.hid (bits_Mul.calls 1 n 0 n w (mul_one64 n hn))
  have h1 : ¬ (n : Int) < 0 := by omega
  have hw : IntKind.u64.wrap (n : Int) = (n : Int) := by rw [IntKind.wrap_u64]; omega
  have hw2 : IntKind.i64.wrap (n : Int) = (n : Int) := IntWalk.i64_in _ (by omega)
  obtain ⟨i0, hi0, hzz⟩ := Option.map_eq_some_iff.1 info33
  simp only [Prod.mk.injEq] at hzz
  obtain ⟨hz0, hz1, hz2⟩ := hzz
  have hms : ∀ wx : World, (Instr.makeSlice 22 (.int .i64 n) (.int .i64 n)).run Try.prog wx = .ok (.slice (some ⟨wx.heap.size, 0, none⟩) n n) (wx.alloc (.cells (madeCells #[.int .u8 0, .int .u32 0] (n * 2)) 33)) := fun wx => by
    have h := run_make (P := Try.prog) wx 22 33 i0 _ Try.underlying22 hi0 hz0 .i64 .i64 n n (by omega) (by omega) (by rw [hz2]; omega) (by omega)
    rw [h, hz1, Int.toNat_natCast]
    rfl
  have C0 := Lib.hid c0
  have C1 := Lib.hid c1
  clear hi0 hz0 hz1 hz2 c0 c1
  go_enter Try.func26, Try.ntmps26
  go_wp2_with fail
  refine (hmul.out).mono ?_
  rintro e w1 ⟨rfl, hd⟩
  have HD := Lib.hid hd
  clear hd hmul
  obtain ⟨nd, rfl⟩ := HD.out.out
  have hmc : (madeCells #[.int .u8 0, .int .u32 0] (n * 2)).size = n * 2 := size_madeCells _ _
  have ho0 : Ones ((w.drewN nd).alloc (.cells (madeCells #[.int .u8 0, .int .u32 0] (n * 2)) 33)) w.heap.size n 0 := ⟨⟨_, heap_alloc_new _ _, hmc, by simp [memC]⟩⟩
  have hb0 : Below w.heap.size w ((w.drewN nd).alloc (.cells (madeCells #[.int .u8 0, .int .u32 0] (n * 2)) 33)) := (HD.out.below).alloc (Nat.le_refl _) _
  have hs0 : ∀ (j : Nat) (v : Value), (memC (List.replicate 1 one))[j]? = some v → ((w.drewN nd).alloc (.cells (madeCells #[.int .u8 0, .int .u32 0] (n * 2)) 33)).cell? ((⟨g, o, none⟩ : Addr).add j) = some v := fun j v hj => by
    rw [add_at]
    have key : w.cell? ⟨g, o + j, none⟩ = some v := by
      match j, hj with
      | 0, hj => simp [memC, cells33, one] at hj; subst hj; exact C0.out
      | 1, hj => simp [memC, cells33, one] at hj; subst hj; exact C1.out
    exact (World.cell?_alloc_lt (w.drewN nd) _ _ (World.block_lt_of_cell? w _ key)).trans key
  have HO0 := Lib.hid ho0
  have HB0 := Lib.hid hb0
  have HS0 := Lib.hid hs0
  clear ho0 hb0 hs0 HD hmc
  go_wp2_with (first
    | (with_reducible refine wpList_copy_ones (w0 := w) rfl _ _ rfl w.heap.size n 0 1 ⟨g, o, none⟩ n n 1 c rfl rfl (Nat.min_eq_left hn1) (by omega) HO0.out HS0.out HB0.out (Nat.le_refl _) ?_; intro w2 ho2 hb2)
    | fail)
  have HO2 := Lib.hid ho2
  have HB2 := Lib.hid hb2
  clear ho2 hb2 HO0 HB0 HS0 hms
  go_loopw [8] (fun i wr => ∃ k : Nat, 1 ≤ k ∧ k ≤ n ∧ i = .int .i64 k ∧ Ones wr w.heap.size n k ∧ Below w.heap.size w wr) (fun i _ => n - (intOf i).toNat)
  case atStart => exact ⟨1, Nat.le_refl _, hn1, rfl, HO2.out, HB2.out⟩
  case round =>
    obtain ⟨k, hk1, hk, rfl, hon, hb⟩ := hrel
    clear HO2 HB2
    have HO := Lib.hid hon
    have HB := Lib.hid hb
    clear hon hb
    by_cases hlt : k < n
    · have e1 : (k : Int) < (n : Int) := by omega
      have e2 : (k : Int) ≤ (n : Int) := by omega
      have e3 : (0 : Int) ≤ (k : Int) := by omega
      obtain ⟨m, hm⟩ : ∃ m, Nat.min k (n - k) = m := ⟨_, rfl⟩
      have hm1 : 1 ≤ m ∧ m ≤ k ∧ k + m ≤ n := by have : m = min k (n - k) := hm.symm; omega
      have hsrc : ∀ (j : Nat) (v : Value), (memC (List.replicate m one))[j]? = some v → wr.drew.cell? ((⟨w.heap.size, 0, none⟩ : Addr).add j) = some v := Ones.src (w := wr.drew) ⟨HO.out.ex⟩ hm1.2.1 hk
      have HSRC := Lib.hid hsrc
      have HM := Lib.hid hm
      have HM1 := Lib.hid hm1
      have e4 : IntKind.i64.wrap ((k : Int) + (m : Int)) = ((k + m : Nat) : Int) := by rw [IntWalk.i64_in _ (by omega)]; simp
      have E4 := Lib.hid e4
      clear hsrc hm hm1 e4
      go_wp2_with fail
      go_region_law ((refine step_copy_ones (w0 := w) rfl (.tmp 41) (.tmp 44) rfl w.heap.size n k m ⟨w.heap.size, 0, none⟩ (n - k) (n - k) k n (by simp [Act.eval, Act.put]; omega) (by simp [Act.eval, Act.put]) HM.out HM1.out.2.2 ⟨HO.out.ex⟩ HSRC.out HB.out.drew (Nat.le_refl _) ?_; intro w3 ho3 hb3))
      have HO3 := Lib.hid ho3
      have HB3 := Lib.hid hb3
      clear ho3 hb3
      go_wp2
      go_roundw
      case rel => exact ⟨k + m, Nat.le_trans hk1 (Nat.le_add_right _ _), HM1.out.2.2, by rw [E4.out], HO3.out, HB3.out⟩
      case measure =>
        have h := HM1.out
        rw [E4.out]
        simp only [intOf, Int.toNat_natCast]
        omega
    · obtain rfl : k = n := by omega
      go_wp2_with fail
      go_ret
      exact ⟨_, rfl, HO.out.own hn (Nat.le_refl _), HB.out⟩
/-- A fresh view: nil, if its number is none. -/
theorem fresh_bad (n : Int) (h : n < 1 ∨ 64 < n) (w : World) : Calls Try.prog 18 #[.int .i64 n] w fun e w' => MemPost w [] e w' := by
  rcases h with h | h
  · go_enter Try.func18, Try.ntmps18
    go_wp2
    go_ret
    exact ⟨_, rfl, World.ownsRow_nil _ _ _ _, Below.refl _ _⟩
  · have h0 : ¬ n < 1 := by omega
    go_enter Try.func18, Try.ntmps18
    go_wp2
    go_ret
    exact ⟨_, rfl, World.ownsRow_nil _ _ _ _, Below.refl _ _⟩
set_option maxHeartbeats 1000000 in
theorem fresh_good (n : Nat) (h1 : 1 ≤ n) (h2 : n ≤ 64) (w : World) : Calls Try.prog 18 #[.int .i64 n] w fun e w' => MemPost w (List.replicate n one) e w' := by
  have h3 : ¬ (n : Int) < 1 := by omega
  have h4 : ¬ (64 : Int) < (n : Int) := by omega
  have hb : Below w.heap.size w (w.alloc (.cells #[.int .u8 1, .int .u32 0] 33)) := (Below.refl _ _).alloc (Nat.le_refl _) _
  have hz := zero_two (heap_alloc_new w (.cells #[.int .u8 1, .int .u32 0] 33))
  have hr := repeat_any w.heap.size 0 1 n h1 h2 (w.alloc (.cells #[.int .u8 1, .int .u32 0] 33)) hz.1 hz.2.1
  have HR := Lib.hid hr
  have HB := Lib.hid hb
  clear hr hb hz
  go_enter Try.func18, Try.ntmps18
  go_wp2_with fail
  refine (HR.out).mono ?_
  rintro e w1 ⟨v, rfl, hv, hb1⟩
  have HV := Lib.hid (own_base hv HB.out.size)
  have HB1 := Lib.hid (HB.out.trans (hb1.mono HB.out.size))
  clear hv hb1 HR
  go_wp2
  go_ret
  exact ⟨_, rfl, HV.out, HB1.out⟩
end Go.Proofs.Ythpfknigommheaa
