/- The contract of the reference's Same at two rows of stats that are alike. Conditions: both rows have the same cells. -/
import Derived.Test.YtackgcbfpkndjaaH
import Derived.Laws.StructEq
import Derived.Deep.QuietTactic
import Derived.BigQuiet
namespace Go.Proofs.Ytackgcbfpkndjaa
open Go.RowKit Go.Maps Go.WideMaps

section
variable {P : Program} {d : Nat} {xs ys : Array Value} {f : Field} {fs : List Field} {a b : Value} {r s : Bool} {w : World}
theorem eqf_cons (hn : (f.name == "_") = false) (ha : (part f.type xs f.offset).run P w = .ok a w) (hb : (part f.type ys f.offset).run P w = .ok b w) (he : (Op.equalIn d f.type a b).run P w = .ok r w) (hr : (Op.eqFields d xs ys fs).run P w = .ok s w) : (Op.eqFields d xs ys (f :: fs)).run P w = .ok (r && s) w := by
  have hn' : f.name ≠ "_" := by simpa using hn
  rw [Op.eqFields]
  simp only [if_pos hn', Sem.run_bind, ha, hb, he, Result.andThen_ok]
  cases r
  · simp
  · simpa using hr
theorem eqf_nil : (Op.eqFields d xs ys []).run P w = .ok true w := by simp [Op.eqFields]
theorem eqA_of {t : TypeId} {fs : Array Field} (hu : P.underlying t = some (.struct fs)) (hp : P.stoodInHeld t = false) (h : (Op.eqFields d xs ys fs.toList).run P w = .ok r w) : (Op.equalIn (d + 1) t (.agg xs) (.agg ys)).run P w = .ok r w := by
  have hf : P.fieldsOf t = fs := by simp [Program.fieldsOf, hu]
  rw [run_equalIn_struct (P := P) w d t xs ys (by rw [hf]; exact hu) hp, hf]
  exact h
end
theorem eqA39 (d : Nat) (w : World) (s : ByteArray) (x : Int) :
    (Op.equalIn (d + 2) 39 (.agg #[.string s, .int .u64 x]) (.agg #[.string s, .int .u64 x])).run Try.prog w = .ok true w := by
  refine eqA_of (r := true) Try.underlying39 (by kernel_rfl) ?_
  refine eqf_cons (a := .string s) (b := .string s) (r := true) (s := true) (by rfl) (by go_simp) (by go_simp) (by go_simp) ?_
  exact eqf_cons (a := .int .u64 x) (b := .int .u64 x) (r := true) (s := true) (by rfl) (by go_simp) (by go_simp) (by go_simp) eqf_nil

/-- At block g lie the stats L. -/
def StatRow (w : World) (g : Nat) (L : List (ByteArray × Int)) : Prop := ∀ (i : Nat) (s : ByteArray) (x : Int), L[i]? = some (s, x) → w.cell? ⟨g, i * 2, none⟩ = some (.string s) ∧ w.cell? ⟨g, i * 2 + 1, none⟩ = some (.int .u64 x)
theorem statCells_get (ns : List ByteArray) (vs : List Int) : ∀ i s x, (ns.zip vs)[i]? = some (s, x) → (statCells ns vs)[i * 2]? = some (.string s) ∧ (statCells ns vs)[i * 2 + 1]? = some (.int .u64 x) := by
  induction ns generalizing vs with
  | nil => intro i s x h; simp at h
  | cons t r ih =>
    intro i s x h
    cases vs with
    | nil => simp at h
    | cons y q =>
      have e : statCells (t :: r) (y :: q) = .string t :: .int .u64 y :: statCells r q := by simp [statCells]
      rw [e]
      cases i with
      | zero =>
        simp at h
        obtain ⟨rfl, rfl⟩ := h
        exact ⟨rfl, rfl⟩
      | succ i =>
        have := ih q i s x (by simpa using h)
        rw [show (i + 1) * 2 = i * 2 + 1 + 1 by omega]
        exact this
theorem stat_row {w : World} {g n : Nat} {ns : List ByteArray} {vs : List Int} (hn : n = ns.length) (h : ∀ j, j < n * 2 → w.cell? ⟨g, j, none⟩ = (statCells ns vs)[j]?) : StatRow w g (ns.zip vs) := by
  intro i s x hi
  have hl := (List.getElem?_eq_some_iff.1 hi).1
  rw [List.length_zip] at hl
  obtain ⟨h1, h2⟩ := statCells_get ns vs i s x hi
  exact ⟨by rw [h _ (by omega), h1], by rw [h _ (by omega), h2]⟩
theorem StatRow.below {w w' : World} {g : Nat} {L : List (ByteArray × Int)} (h : StatRow w g L) (hb : Below w.heap.size w w') : StatRow w' g L := fun i s x hi =>
  ⟨(hb.cell (World.block_lt_of_cell? w _ (h i s x hi).1)).trans (h i s x hi).1, (hb.cell (World.block_lt_of_cell? w _ (h i s x hi).2)).trans (h i s x hi).2⟩
theorem StatRow.other {w w' : World} {g m : Nat} {L : List (ByteArray × Int)} (h : StatRow w g L) (hg : w.grownBy w' (some m)) (hne : g ≠ m) : StatRow w' g L := fun i s x hi =>
  ⟨hg.cell (h i s x hi).1 (fun e => hne (by injection e)), hg.cell (h i s x hi).2 (fun e => hne (by injection e))⟩

set_option maxHeartbeats 400000 in
theorem same_true (g1 g2 n c1 c2 : Nat) (L : List (ByteArray × Int)) (w : World) (hn : L.length = n) (hmax : n ≤ 4096) (h1 : StatRow w g1 L) (h2 : StatRow w g2 L) :
    Calls Try.prog 12 #[.slice (some ⟨g1, 0, none⟩) n c1, .slice (some ⟨g2, 0, none⟩) n c2] w fun e w' => TruePost w e w' := by
  have H1 := Lib.hid h1
  have H2 := Lib.hid h2
  have HN := Lib.hid hn
  have he := fun (d : Nat) (w : World) (s : ByteArray) (x : Int) => eqA39 d w s x
  clear h1 h2 hn
  go_enter Try.func12, Try.ntmps12
  go_wp2
  go_loopw [13] (fun i wr => ∃ k m : Nat, k ≤ n ∧ i = .int .i64 k ∧ wr = w.drewN m) (fun i _ => n - (intOf i).toNat)
  case atStart => exact ⟨0, 0, Nat.zero_le _, rfl, rfl⟩
  case round =>
    obtain ⟨k, m, hk, rfl, rfl⟩ := hrel
    by_cases hlt : k < n
    · obtain ⟨⟨s, x⟩, hp⟩ : ∃ p, L[k]? = some p := ⟨_, List.getElem?_eq_getElem (by rw [HN.out]; exact hlt)⟩
      obtain ⟨a0, a1⟩ := H1.out k s x hp
      obtain ⟨b0, b1⟩ := H2.out k s x hp
      have hk0 : (0 : Int) ≤ (k : Int) := by omega
      have hkn : (k : Int) < (n : Int) := by omega
      clear hp
      go_wp2_with fail
      go_quiet (fail)
      clear a0 a1 b0 b1
      go_wp2
      go_roundw
      case rel => exact ⟨k + 1, _, by omega, by go_num, rfl⟩
      case measure => simp [intOf]; omega
    · go_wp2
      go_ret
      exact ⟨rfl, below_drewN' (Below.refl _ _) _⟩
end Go.Proofs.Ytackgcbfpkndjaa
