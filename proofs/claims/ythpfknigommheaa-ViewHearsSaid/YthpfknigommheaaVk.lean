/- The walk of ViewNewer. Conditions: the rows lie as Go's slices do. -/
import Derived.Test.YthpfknigommheaaVi
import Derived.Test.YthpfknigommheaaVj
namespace Go.Proofs.Ythpfknigommheaa
open Go.RowKit Go.ChangeShapes Go.WideShapes Go.ChangeAt Go.Deep PViewTells Go.Proofs.YthpfknigommheaaW.PrintWords

theorem great_dec (n m : Nat) : decide (64 < n ∨ 300 < m) = true ∨ (decide (64 < n ∨ 300 < m) = false ∧ n ≤ 64 ∧ m ≤ 300) := by
  by_cases h : 64 < n ∨ 300 < m
  · exact Or.inl (decide_eq_true h)
  · exact Or.inr ⟨decide_eq_false h, by omega, by omega⟩
set_option maxRecDepth 100000 in
set_option maxHeartbeats 2000000 in
theorem viewNewer_some (A : Option Addr) (c : Nat) (xs : List S33) (self : Int) (A2 : Option Addr) (c2 : Nat) (l : List S36) (w : World) (hx : MemA w A c xs) (hl : NewsA w A2 c2 l) (h1 : xs.length ≤ 9223372036854775807) (h2 : l.length ≤ 9223372036854775807)
    (ho : ∀ x ∈ xs, ok33 x) (hn : ∀ x ∈ l, ok36 x) :
    Calls Try.prog 4 #[.slice A xs.length c, .int .u8 self, .slice A2 l.length c2] w fun e w' => TruePost w e w' := by
  have HX := Lib.hid hx
  have HL := Lib.hid hl
  have HO := Lib.hid ho
  have HN := Lib.hid hn
  have hgr := Lib.hid (great_any A c xs A2 c2 l w hx hl h1 h2)
  clear hx hl ho hn h1 h2
  go_enter Try.func4, Try.ntmps4
  go_wp2_with fail
  refine (hgr.out).mono ?_
  rintro e w1 ⟨rfl, hb1⟩
  have HB1 := Lib.hid hb1
  clear hb1 hgr
  rcases great_dec xs.length l.length with hd | ⟨hd, hx64, hl300⟩
  · rw [hd]
    clear hd
    go_wp2_with fail
    refine (fixed_any w1).mono ?_
    rintro e w2 ⟨rfl, hb2⟩
    have HB2 := Lib.hid (HB1.out.trans (hb2.mono HB1.out.size))
    clear hb2 HB1
    go_wp2_with fail
    go_ret
    exact ⟨rfl, HB2.out⟩
  · rw [hd]
    clear hd
    have hh := hear_any A c xs self A2 c2 l w1 (HX.out.below HB1.out) (by omega) (HL.out.below HB1.out) (by omega) HO.out HN.out
    have ht := tame_heard self xs l HN.out
    obtain ⟨out, ch, hoc⟩ : ∃ out ch, heard self xs l = (out, ch) := ⟨_, _, rfl⟩
    have hchl : ch.length ≤ 300 := by
      have h := (heardFrom_inv self l HN.out (xs, []) HO.out (fun y hy => by simp at hy)).2.1
      have e : (heardFrom self (xs, []) l) = (out, ch) := hoc
      rw [e] at h
      simp at h
      omega
    rw [hoc] at hh ht
    have HH := Lib.hid hh
    have HT := Lib.hid ht
    have hlen : out.length = xs.length := ht.len
    clear hh ht hoc
    go_wp2_with fail
    refine (HH.out).mono ?_
    rintro e w2 ⟨va, vb, rfl, hm, hn, hb2⟩
    obtain ⟨Ao, co, rfl, hao⟩ := hm.arg
    obtain ⟨Ac, cc, rfl, hac⟩ := hn.arg
    rw [hlen]
    have HAO := Lib.hid hao
    have HAC := Lib.hid hac
    have HLEN := Lib.hid hlen
    have HB2 := Lib.hid (HB1.out.trans (hb2.mono HB1.out.size))
    have HX2 := Lib.hid (HX.out.below HB2.out)
    clear hm hn hao hac hlen hb2 HB1 HH
    go_wp2_with fail
    go_loopw [30] (fun i wr => ∃ k : Nat, k ≤ xs.length ∧ i = .int .i64 k ∧ Below w2.heap.size w2 wr) (fun i _ => xs.length - (intOf i).toNat)
    case atStart => exact ⟨0, Nat.zero_le _, rfl, Below.refl _ _⟩
    case round =>
      obtain ⟨k, hk, rfl, hb⟩ := hrel
      by_cases hlt : k < xs.length
      · obtain ⟨m, hm⟩ : ∃ m, xs[k]? = some m := ⟨_, List.getElem?_eq_getElem hlt⟩
        obtain ⟨m', hm'⟩ : ∃ m', out[k]? = some m' := ⟨_, List.getElem?_eq_getElem (by rw [HLEN.out]; exact hlt)⟩
        obtain ⟨ga, oa, ea, a0, a1⟩ := (HX2.out.below hb).row k m hm
        obtain ⟨gb, ob, eb, b0, b1⟩ := (HAO.out.below hb).row k m' hm'
        subst ea
        subst eb
        have hf := HT.out.mem k m m' hm hm'
        have HB := Lib.hid hb
        have hkz : (0 : Int) ≤ (k : Int) := by omega
        have hkn : (k : Int) < (xs.length : Int) := by omega
        have hw8 : IntKind.u8.wrap (k : Int) = (k : Int) := by rw [IntKind.wrap_u8]; omega
        clear hm hm' hb
        by_cases hself : (k : Int) = self
        · obtain ⟨f1, f2⟩ := hf.1 hself
          have hbs : ((k : Int) == self) = true := by rw [beq_iff_eq]; exact hself
          have hd1 : decide (m'.f1 < m.f1) = false := decide_eq_false (by omega)
          clear hf hself
          by_cases hone : m.f0 = 1
          · have hone' := f2 hone
            have q1 : (m.f0 == 1) = true := by rw [beq_iff_eq]; exact hone
            have q2 : (m'.f0 == 1) = true := by rw [beq_iff_eq]; exact hone'
            have q3 : (m'.f0 != 1) = false := by rw [bne, q2]; rfl
            clear f1 f2 hone hone'
            go_wp2_with fail
            go_quiet (fail)
            go_wp2_with fail
            go_roundw
            case rel => exact ⟨k + 1, by omega, by go_num, below_drewN HB.out nq⟩
            case measure => simp [intOf]; omega
          · have q1 : (m.f0 == 1) = false := beq_eq_false_iff_ne.2 hone
            clear f1 f2 hone
            go_wp2_with fail
            go_quiet (fail)
            go_wp2_with fail
            go_roundw
            case rel => exact ⟨k + 1, by omega, by go_num, below_drewN HB.out nq⟩
            case measure => simp [intOf]; omega
        · have hbs : ((k : Int) == self) = false := beq_eq_false_iff_ne.2 hself
          have heq := eqA33
          rcases hf.2 hself with he | he
          · subst he
            clear hf hself
            go_wp2_with fail
            go_quiet (fail)
            go_wp2_with fail
            go_roundw
            case rel => exact ⟨k + 1, by omega, by go_num, below_drewN HB.out nq⟩
            case measure => simp [intOf]; omega
          · have hne : m' ≠ m := fun e => by rw [e, newer_irrefl] at he; cases he
            have hq := eq33_not.2 hne
            unfold eq33 at hq
            have HE := Lib.hid he
            clear hf hself hne he
            go_wp2_with fail
            go_cut [84] (fun v wx => v = .bool false ∧ Below w2.heap.size w2 wx)
            case first =>
              go_region_held3 (fun w' => w'.cell? ⟨ga, oa + k * 2, none⟩ = some (.int .u8 m.f0) ∧ w'.cell? ⟨ga, oa + k * 2 + 1, none⟩ = some (.int .u32 m.f1) ∧ w'.cell? ⟨gb, ob + k * 2, none⟩ = some (.int .u8 m'.f0) ∧ w'.cell? ⟨gb, ob + k * 2 + 1, none⟩ = some (.int .u32 m'.f1))
                ((go_split_ands; (refine ⟨?_, ?_, ?_, ?_⟩ <;> first | assumption | exact cell_keep b15 (by assumption))))
                (first | (go_at_call 15; refine (newer15_any m' m _).mono ?_; rintro e v15 ⟨rfl, b15⟩))
              go_wp2
              go_meet
              exact ⟨by rw [HE.out]; rfl, HB.out.drew.trans (b15.mono HB.out.size)⟩
            case rest =>
              obtain ⟨rfl, hb⟩ := hcut
              have HB9 := Lib.hid hb
              clear hb a0 a1 b0 b1 heq
              go_wp2_with fail
              go_roundw
              case rel => exact ⟨k + 1, by omega, by go_num, HB9.out⟩
              case measure => simp [intOf]; omega
      · obtain ⟨wo, hwo⟩ : ∃ wo, wo = wr := ⟨_, rfl⟩
        rw [← hwo] at hb ⊢
        have HB3 := Lib.hid hb
        have hkn : ¬ (k : Int) < (xs.length : Int) := by omega
        clear hb hwo hlt hk
        go_wp2_with fail
        go_loopw [88] (fun i wr => ∃ k : Nat, k ≤ ch.length ∧ i = .int .i64 k ∧ Below w2.heap.size w2 wr) (fun i _ => ch.length - (intOf i).toNat)
        case atStart => exact ⟨0, Nat.zero_le _, rfl, HB3.out⟩
        case round =>
          obtain ⟨k, hk, rfl, hb⟩ := hrel
          clear HB3
          by_cases hlt : k < ch.length
          · obtain ⟨x, hx⟩ : ∃ x, ch[k]? = some x := ⟨_, List.getElem?_eq_getElem hlt⟩
            obtain ⟨gc, oc, ec, c0, c1, c2'⟩ := (HAC.out.below hb).row k x hx
            subst ec
            obtain ⟨n, m, hxn, hm, hor⟩ := HT.out.news x (List.mem_of_getElem? hx)
            obtain ⟨ga, oa, ea, a0, a1⟩ := (HX2.out.below hb).row n m hm
            subst ea
            obtain ⟨x0, xm⟩ := x
            simp only at hxn
            subst hxn
            have hnx : n < xs.length := (List.getElem?_eq_some_iff.1 hm).1
            have HB := Lib.hid hb
            have hkz : (0 : Int) ≤ (k : Int) := by omega
            have hkn : (k : Int) < (ch.length : Int) := by omega
            have hnl : (n : Int) < (xs.length : Int) := by omega
            have hd : decide ((xs.length : Int) ≤ (n : Int)) = false := decide_eq_false (by omega)
            have hd2 : decide (xs.length ≤ n) = false := decide_eq_false (by omega)
            have hd3 : decide ((xs.length : Int) ≤ IntKind.i64.wrap (n : Int)) = false := by rw [IntWalk.i64_in _ (by omega)]; exact hd
            have q0 : (wr.alloc (.cells #[.int .u8 (n : Int), .int .u8 xm.f0, .int .u32 xm.f1] 36)).cell? ⟨wr.heap.size, 0, none⟩ = some (.int .u8 (n : Int)) := cell_new rfl _ _ 0
            have q1 : (wr.alloc (.cells #[.int .u8 (n : Int), .int .u8 xm.f0, .int .u32 xm.f1] 36)).cell? ⟨wr.heap.size, 1, none⟩ = some (.int .u8 xm.f0) := cell_new rfl _ _ 1
            have q2 : (wr.alloc (.cells #[.int .u8 (n : Int), .int .u8 xm.f0, .int .u32 xm.f1] 36)).cell? ⟨wr.heap.size, 2, none⟩ = some (.int .u32 xm.f1) := cell_new rfl _ _ 2
            have r0 : (wr.alloc (.cells #[.int .u8 (n : Int), .int .u8 xm.f0, .int .u32 xm.f1] 36)).cell? ⟨ga, oa + n * 2, none⟩ = some (.int .u8 m.f0) := alloc_keep a0
            have r1 : (wr.alloc (.cells #[.int .u8 (n : Int), .int .u8 xm.f0, .int .u32 xm.f1] 36)).cell? ⟨ga, oa + n * 2 + 1, none⟩ = some (.int .u32 m.f1) := alloc_keep a1
            have hba : Below wr.heap.size wr (wr.alloc (.cells #[.int .u8 (n : Int), .int .u8 xm.f0, .int .u32 xm.f1] 36)) := (Below.refl _ _).alloc (Nat.le_refl _) _
            have HBA := Lib.hid (hb.trans (hba.mono hb.size))
            clear hx hm hb a0 a1 hba
            by_cases hself : (n : Int) = self
            · have e1 : ((n : Int) == self) = true := by rw [beq_iff_eq]; exact hself
              have e2 : ((n : Int) != self) = false := by rw [bne, e1]; rfl
              clear hself hor
              go_wp2_with fail
              go_quiet (fail)
              go_wp2_with fail
              go_roundw
              case rel => exact ⟨k + 1, by omega, by go_num, below_drewN HBA.out nq⟩
              case measure => simp [intOf]; omega
            · have e1 : ((n : Int) == self) = false := beq_eq_false_iff_ne.2 hself
              have e2 : ((n : Int) != self) = true := by rw [bne, e1]; rfl
              have he : newer xm m = true := hor.resolve_left hself
              have HE := Lib.hid he
              clear hself hor he
              go_wp2_with fail
              obtain ⟨W, hW⟩ : ∃ W, W = wr.alloc (.cells #[.int .u8 (n : Int), .int .u8 xm.f0, .int .u32 xm.f1] 36) := ⟨_, rfl⟩
              rw [← hW] at q0 q1 q2 r0 r1 HBA ⊢
              clear hW
              go_cut [114] (fun v wx => v = .bool false ∧ Below w2.heap.size w2 wx)
              case first =>
                go_region_held3 (fun w' => w'.cell? ⟨ga, oa + n * 2, none⟩ = some (.int .u8 m.f0) ∧ w'.cell? ⟨ga, oa + n * 2 + 1, none⟩ = some (.int .u32 m.f1) ∧ w'.cell? ⟨wr.heap.size, 0, none⟩ = some (.int .u8 (n : Int)) ∧ w'.cell? ⟨wr.heap.size, 1, none⟩ = some (.int .u8 xm.f0) ∧ w'.cell? ⟨wr.heap.size, 2, none⟩ = some (.int .u32 xm.f1))
                  ((go_split_ands; (refine ⟨?_, ?_, ?_, ?_, ?_⟩ <;> first | assumption | exact cell_keep b15 (by assumption))))
                  (first | (go_at_call 15; refine (newer15_any xm m _).mono ?_; rintro e v15 ⟨rfl, b15⟩))
                go_wp2
                go_meet
                exact ⟨by rw [HE.out]; rfl, HBA.out.drew.trans (b15.mono HBA.out.size)⟩
              case rest =>
                obtain ⟨rfl, hb⟩ := hcut
                have HB9 := Lib.hid hb
                clear hb q0 q1 q2 r0 r1
                go_wp2_with fail
                go_roundw
                case rel => exact ⟨k + 1, by omega, by go_num, HB9.out⟩
                case measure => simp [intOf]; omega
          · have hkn : ¬ (k : Int) < (ch.length : Int) := by omega
            have HB3 := Lib.hid (HB2.out.trans (hb.mono HB2.out.size))
            clear hb hlt hk
            go_wp2_with fail
            refine (fixed_any _).mono ?_
            rintro e w9 ⟨rfl, hb9⟩
            have HB9 := Lib.hid (HB3.out.trans (hb9.mono HB3.out.size))
            clear hb9
            go_wp2_with fail
            go_ret
            exact ⟨rfl, HB9.out⟩
theorem viewNewer_walk (a : Option Addr) (len cap : Nat) (L : List S33) (self : Int) (a2 : Option Addr) (len2 cap2 : Nat) (L2 : List S36) (w : World) (hrow : RowOf cells33 2 ok33 w a len cap L) (hr : len * 8 ≤ 140737488351232) (_hs : (Lit.int .u8 self).wf = true) (hrow2 : RowOf cells36 3 ok36 w a2 len2 cap2 L2) (hr2 : len2 * 12 ≤ 140737488351232) :
    Calls Try.prog 4 #[.slice a len cap, .int .u8 self, .slice a2 len2 cap2] w fun e w' => TruePost w e w' := by
  have hm := memA_of_row hrow
  have hn := newsA_of_row hrow2
  have hs := hrow.size
  have hs2 := hrow2.size
  subst hs hs2
  exact viewNewer_some a cap L self a2 cap2 L2 w hm hn (by omega) (by omega) hrow.good hrow2.good
end Go.Proofs.Ythpfknigommheaa
