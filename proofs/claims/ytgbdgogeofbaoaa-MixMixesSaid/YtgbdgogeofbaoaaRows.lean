/-
  No cell of these rows narrows 'for every input' (looked for: loops, veiled, ifaces, maps, wideKeys, modest, calm, conditions, laid).
  DERIVED. THE GIVEN ROWS OF THIS SEAT. 6 by the template 'for every input the law returns true; each argument reads behind the call as it read before'; 0 by the template 'total and deterministic' (their statements: YtgbdgogeofbaoaaTotals.lean).
  GIVEN WITH THE SEED: the statements are not yours to turn. If you find one false, say at which input.
  Laid BY PROGRAM, IN A SANDBOX (cutbox-rows.mjs): the forced cells as the released guide's own fill.sh prints them over the translation 346773b2bfe5447e… (all of the seat's roots in one cut). By AI agents, Wed Nov 11 2026. No macro, syntax, notation, axiom, sorry.
-/
import Derived.Test.YtgbdgogeofbaoaaChecked
import GoSem.Claim
import GoSem.ClaimJoined
import GoSem.ClaimMapViews
import Derived.JoinedTies
import Derived.KernelRfl
namespace Go.Proofs.Ytgbdgogeofbaoaa
/- THE CELL 'sum', in the pinned program and in every row, IS THE sha256 OF THE DUMP (.gsa) THAT YtgbdgogeofbaoaaProg.lean LOADS. Nothing in Lean hashes anything: it is a label: what it is worth is what the hold of that sum in a sandbox is worth. -/
noncomputable def Try.pinned : Pinned := { name := "ytgbdgogeofbaoaa", sum := "346773b2bfe5447e2887128a092ba8cf8e23160d2aa0cdcb0c7503d9d9dc75e1", checked := Try.checked }
namespace Rows
def none {H : Type} : Left H := { results := [], args := [] }

/-- 'tattlerlaw01.MixMixes': WHATEVER THE INPUT: true; the input reads as it did. -/
def mixMixesSpec : ChangeSpec := { name := "mixMixes", fn := fun _ => fun
  | [d1, d2] => { results := [.lit (.bool true)], args := [d1, d2] }
  | _ => none }
def mixMixesRow : OpenClaim := { program := "ytgbdgogeofbaoaa", sum := "346773b2bfe5447e2887128a092ba8cf8e23160d2aa0cdcb0c7503d9d9dc75e1", func := "tattler/tattlerlaw01.MixMixes", spec := "mixMixes", apart := false }
def MixMixesSaid : Prop := mixMixesRow.holds Try.pinned (OpenSpec.ofChange mixMixesSpec)

/-- ITS FALSE NEIGHBOUR: 'it returns false'. Refute it at one input. -/
def mixMixesWrong : ChangeSpec := { name := "mixMixes", fn := fun _ => fun
  | [d1, d2] => { results := [.lit (.bool false)], args := [d1, d2] }
  | _ => none }
def MixMixesWrongFalsely : Prop := mixMixesRow.holds Try.pinned (OpenSpec.ofChange mixMixesWrong)

/-- 'tattlerlaw01.MixApart': WHATEVER THE INPUT: true; the input reads as it did. -/
def mixApartSpec : ChangeSpec := { name := "mixApart", fn := fun _ => fun
  | [d1, d2, d3] => { results := [.lit (.bool true)], args := [d1, d2, d3] }
  | _ => none }
def mixApartRow : OpenClaim := { program := "ytgbdgogeofbaoaa", sum := "346773b2bfe5447e2887128a092ba8cf8e23160d2aa0cdcb0c7503d9d9dc75e1", func := "tattler/tattlerlaw01.MixApart", spec := "mixApart", apart := false }
def MixApartSaid : Prop := mixApartRow.holds Try.pinned (OpenSpec.ofChange mixApartSpec)

/-- ITS FALSE NEIGHBOUR: 'it returns false'. Refute it at one input. -/
def mixApartWrong : ChangeSpec := { name := "mixApart", fn := fun _ => fun
  | [d1, d2, d3] => { results := [.lit (.bool false)], args := [d1, d2, d3] }
  | _ => none }
def MixApartWrongFalsely : Prop := mixApartRow.holds Try.pinned (OpenSpec.ofChange mixApartWrong)

/-- 'tattlerlaw01.MixBack': WHATEVER THE INPUT: true; the input reads as it did. -/
def mixBackSpec : ChangeSpec := { name := "mixBack", fn := fun _ => fun
  | [d] => { results := [.lit (.bool true)], args := [d] }
  | _ => none }
def mixBackRow : OpenClaim := { program := "ytgbdgogeofbaoaa", sum := "346773b2bfe5447e2887128a092ba8cf8e23160d2aa0cdcb0c7503d9d9dc75e1", func := "tattler/tattlerlaw01.MixBack", spec := "mixBack", apart := false }
def MixBackSaid : Prop := mixBackRow.holds Try.pinned (OpenSpec.ofChange mixBackSpec)

/-- ITS FALSE NEIGHBOUR: 'it returns false'. Refute it at one input. -/
def mixBackWrong : ChangeSpec := { name := "mixBack", fn := fun _ => fun
  | [d] => { results := [.lit (.bool false)], args := [d] }
  | _ => none }
def MixBackWrongFalsely : Prop := mixBackRow.holds Try.pinned (OpenSpec.ofChange mixBackWrong)

/-- 'tattlerlaw01.MixFirst': WHATEVER THE INPUT: true; the input reads as it did. -/
def mixFirstSpec : ChangeSpec := { name := "mixFirst", fn := fun _ => fun
  | [d1, d2, d3] => { results := [.lit (.bool true)], args := [d1, d2, d3] }
  | _ => none }
def mixFirstRow : OpenClaim := { program := "ytgbdgogeofbaoaa", sum := "346773b2bfe5447e2887128a092ba8cf8e23160d2aa0cdcb0c7503d9d9dc75e1", func := "tattler/tattlerlaw01.MixFirst", spec := "mixFirst", apart := false }
def MixFirstSaid : Prop := mixFirstRow.holds Try.pinned (OpenSpec.ofChange mixFirstSpec)

/-- ITS FALSE NEIGHBOUR: 'it returns false'. Refute it at one input. -/
def mixFirstWrong : ChangeSpec := { name := "mixFirst", fn := fun _ => fun
  | [d1, d2, d3] => { results := [.lit (.bool false)], args := [d1, d2, d3] }
  | _ => none }
def MixFirstWrongFalsely : Prop := mixFirstRow.holds Try.pinned (OpenSpec.ofChange mixFirstWrong)

/-- 'tattlerlaw01.MixTexts': WHATEVER THE INPUT: true; the input reads as it did. -/
def mixTextsSpec : ChangeSpec := { name := "mixTexts", fn := fun _ => fun
  | [d] => { results := [.lit (.bool true)], args := [d] }
  | _ => none }
def mixTextsRow : OpenClaim := { program := "ytgbdgogeofbaoaa", sum := "346773b2bfe5447e2887128a092ba8cf8e23160d2aa0cdcb0c7503d9d9dc75e1", func := "tattler/tattlerlaw01.MixTexts", spec := "mixTexts", apart := false }
def MixTextsSaid : Prop := mixTextsRow.holds Try.pinned (OpenSpec.ofChange mixTextsSpec)

/-- ITS FALSE NEIGHBOUR: 'it returns false'. Refute it at one input. -/
def mixTextsWrong : ChangeSpec := { name := "mixTexts", fn := fun _ => fun
  | [d] => { results := [.lit (.bool false)], args := [d] }
  | _ => none }
def MixTextsWrongFalsely : Prop := mixTextsRow.holds Try.pinned (OpenSpec.ofChange mixTextsWrong)

/-- 'tattlerlaw01.MixRange': WHATEVER THE INPUT: true; the input reads as it did. -/
def mixRangeSpec : ChangeSpec := { name := "mixRange", fn := fun _ => fun
  | [d] => { results := [.lit (.bool true)], args := [d] }
  | _ => none }
def mixRangeRow : OpenClaim := { program := "ytgbdgogeofbaoaa", sum := "346773b2bfe5447e2887128a092ba8cf8e23160d2aa0cdcb0c7503d9d9dc75e1", func := "tattler/tattlerlaw01.MixRange", spec := "mixRange", apart := false }
def MixRangeSaid : Prop := mixRangeRow.holds Try.pinned (OpenSpec.ofChange mixRangeSpec)

/-- ITS FALSE NEIGHBOUR: 'it returns false'. Refute it at one input. -/
def mixRangeWrong : ChangeSpec := { name := "mixRange", fn := fun _ => fun
  | [d] => { results := [.lit (.bool false)], args := [d] }
  | _ => none }
def MixRangeWrongFalsely : Prop := mixRangeRow.holds Try.pinned (OpenSpec.ofChange mixRangeWrong)

/- THE SECOND FORM. 'bulk': how many values and letters a reading holds, each counted each time it is reached (what is shared counts as often as it is met; a slice's spare places count too). A statement '..UptoSaid' is the law's where the arguments, and the package variables that the reading takes, are together of bulk at most 1048576: NARROWER than '..Said'. Prove '..Said' where nothing that the law and all that it calls make is longer than what came in: it says more and counts as full. Else prove '..UptoSaid'. A law counts once. -/
mutual
def uptoBulk {H : Type} : DataW H → Nat
  | .lit (.string bytes) => bytes.length + 1
  | .lit _ => 1
  | .nil => 1
  | .ptr d => uptoBulk d + 1
  | .slice elems spare => uptoBulkAll elems + uptoBulkAll spare + 1
  | .agg parts => uptoBulkAll parts + 1
  | .iface _ d => uptoBulk d + 1
  | .map entries => uptoBulkEntries entries + 1
  | .held _ => 1
def uptoBulkAll {H : Type} : List (DataW H) → Nat
  | [] => 0
  | d :: r => uptoBulk d + uptoBulkAll r
def uptoBulkEntries {H : Type} : List (Lit × DataW H) → Nat
  | [] => 0
  | x :: r => uptoBulkEntry x + uptoBulkEntries r
def uptoBulkEntry {H : Type} : Lit × DataW H → Nat
  | (.string bytes, d) => bytes.length + uptoBulk d + 1
  | (_, d) => uptoBulk d + 1
 end
def uptoSmall : (H : Type) → List (DataW H) → Bool := fun _ ds => decide (uptoBulkAll ds ≤ 1048576)
def OpenSpec.upto (s : _root_.Go.ChangeSpec) : _root_.Go.OpenSpec := { _root_.Go.OpenSpec.ofChange s with cond := some uptoSmall }

/-- 'tattlerlaw01.MixMixes', WHERE WHAT IT READS IS OF BULK AT MOST 1048576: true; the input reads as it did. -/
def mixMixesUptoRow : OpenClaim := { program := "ytgbdgogeofbaoaa", sum := "346773b2bfe5447e2887128a092ba8cf8e23160d2aa0cdcb0c7503d9d9dc75e1", func := "tattler/tattlerlaw01.MixMixes", spec := "mixMixes", apart := false, narrowed := true }
def MixMixesUptoSaid : Prop := mixMixesUptoRow.holds Try.pinned (OpenSpec.upto mixMixesSpec)

/-- 'tattlerlaw01.MixApart', WHERE WHAT IT READS IS OF BULK AT MOST 1048576: true; the input reads as it did. -/
def mixApartUptoRow : OpenClaim := { program := "ytgbdgogeofbaoaa", sum := "346773b2bfe5447e2887128a092ba8cf8e23160d2aa0cdcb0c7503d9d9dc75e1", func := "tattler/tattlerlaw01.MixApart", spec := "mixApart", apart := false, narrowed := true }
def MixApartUptoSaid : Prop := mixApartUptoRow.holds Try.pinned (OpenSpec.upto mixApartSpec)

/-- 'tattlerlaw01.MixBack', WHERE WHAT IT READS IS OF BULK AT MOST 1048576: true; the input reads as it did. -/
def mixBackUptoRow : OpenClaim := { program := "ytgbdgogeofbaoaa", sum := "346773b2bfe5447e2887128a092ba8cf8e23160d2aa0cdcb0c7503d9d9dc75e1", func := "tattler/tattlerlaw01.MixBack", spec := "mixBack", apart := false, narrowed := true }
def MixBackUptoSaid : Prop := mixBackUptoRow.holds Try.pinned (OpenSpec.upto mixBackSpec)

/-- 'tattlerlaw01.MixFirst', WHERE WHAT IT READS IS OF BULK AT MOST 1048576: true; the input reads as it did. -/
def mixFirstUptoRow : OpenClaim := { program := "ytgbdgogeofbaoaa", sum := "346773b2bfe5447e2887128a092ba8cf8e23160d2aa0cdcb0c7503d9d9dc75e1", func := "tattler/tattlerlaw01.MixFirst", spec := "mixFirst", apart := false, narrowed := true }
def MixFirstUptoSaid : Prop := mixFirstUptoRow.holds Try.pinned (OpenSpec.upto mixFirstSpec)

/-- 'tattlerlaw01.MixTexts', WHERE WHAT IT READS IS OF BULK AT MOST 1048576: true; the input reads as it did. -/
def mixTextsUptoRow : OpenClaim := { program := "ytgbdgogeofbaoaa", sum := "346773b2bfe5447e2887128a092ba8cf8e23160d2aa0cdcb0c7503d9d9dc75e1", func := "tattler/tattlerlaw01.MixTexts", spec := "mixTexts", apart := false, narrowed := true }
def MixTextsUptoSaid : Prop := mixTextsUptoRow.holds Try.pinned (OpenSpec.upto mixTextsSpec)

/-- 'tattlerlaw01.MixRange', WHERE WHAT IT READS IS OF BULK AT MOST 1048576: true; the input reads as it did. -/
def mixRangeUptoRow : OpenClaim := { program := "ytgbdgogeofbaoaa", sum := "346773b2bfe5447e2887128a092ba8cf8e23160d2aa0cdcb0c7503d9d9dc75e1", func := "tattler/tattlerlaw01.MixRange", spec := "mixRange", apart := false, narrowed := true }
def MixRangeUptoSaid : Prop := mixRangeUptoRow.holds Try.pinned (OpenSpec.upto mixRangeSpec)

end Rows
end Go.Proofs.Ytgbdgogeofbaoaa
