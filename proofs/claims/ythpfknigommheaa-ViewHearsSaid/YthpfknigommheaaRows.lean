/-
  No cell of these rows narrows 'for every input' (looked for: loops, veiled, ifaces, maps, wideKeys, modest, calm, conditions, laid).
  DERIVED. THE GIVEN ROWS OF THIS SEAT. 6 by the template 'for every input the law returns true; each argument reads behind the call as it read before'; 0 by the template 'total and deterministic' (their statements: YthpfknigommheaaTotals.lean).
  GIVEN WITH THE SEED: the statements are not yours to turn. If you find one false, say at which input.
  Laid BY PROGRAM, IN A SANDBOX (cutbox-rows.mjs): the forced cells as the released guide's own fill.sh prints them over the translation f19378478a247181… (all of the seat's roots in one cut). By AI agents, Wed Nov 11 2026. No macro, syntax, notation, axiom, sorry.
-/
import Derived.Test.YthpfknigommheaaChecked
import GoSem.Claim
import GoSem.ClaimJoined
import GoSem.ClaimMapViews
import Derived.JoinedTies
import Derived.KernelRfl
namespace Go.Proofs.Ythpfknigommheaa
/- THE CELL 'sum', in the pinned program and in every row, IS THE sha256 OF THE DUMP (.gsa) THAT YthpfknigommheaaProg.lean LOADS. Nothing in Lean hashes anything: it is a label: what it is worth is what the hold of that sum in a sandbox is worth. -/
noncomputable def Try.pinned : Pinned := { name := "ythpfknigommheaa", sum := "f19378478a247181178eaa7cfa6f9cd5f0159cd03874767df298dd27a387122c", checked := Try.checked }
namespace Rows
def none {H : Type} : Left H := { results := [], args := [] }

/-- 'tattlerlaw17.ViewHears': WHATEVER THE INPUT: true; the input reads as it did. -/
def viewHearsSpec : ChangeSpec := { name := "viewHears", fn := fun _ => fun
  | [d1, d2, d3] => { results := [.lit (.bool true)], args := [d1, d2, d3] }
  | _ => none }
def viewHearsRow : OpenClaim := { program := "ythpfknigommheaa", sum := "f19378478a247181178eaa7cfa6f9cd5f0159cd03874767df298dd27a387122c", func := "tattler/tattlerlaw17.ViewHears", spec := "viewHears", apart := false }
def ViewHearsSaid : Prop := viewHearsRow.holds Try.pinned (OpenSpec.ofChange viewHearsSpec)

/-- ITS FALSE NEIGHBOUR: 'it returns false'. Refute it at one input. -/
def viewHearsWrong : ChangeSpec := { name := "viewHears", fn := fun _ => fun
  | [d1, d2, d3] => { results := [.lit (.bool false)], args := [d1, d2, d3] }
  | _ => none }
def ViewHearsWrongFalsely : Prop := viewHearsRow.holds Try.pinned (OpenSpec.ofChange viewHearsWrong)

/-- 'tattlerlaw17.ViewNewer': WHATEVER THE INPUT: true; the input reads as it did. -/
def viewNewerSpec : ChangeSpec := { name := "viewNewer", fn := fun _ => fun
  | [d1, d2, d3] => { results := [.lit (.bool true)], args := [d1, d2, d3] }
  | _ => none }
def viewNewerRow : OpenClaim := { program := "ythpfknigommheaa", sum := "f19378478a247181178eaa7cfa6f9cd5f0159cd03874767df298dd27a387122c", func := "tattler/tattlerlaw17.ViewNewer", spec := "viewNewer", apart := false }
def ViewNewerSaid : Prop := viewNewerRow.holds Try.pinned (OpenSpec.ofChange viewNewerSpec)

/-- ITS FALSE NEIGHBOUR: 'it returns false'. Refute it at one input. -/
def viewNewerWrong : ChangeSpec := { name := "viewNewer", fn := fun _ => fun
  | [d1, d2, d3] => { results := [.lit (.bool false)], args := [d1, d2, d3] }
  | _ => none }
def ViewNewerWrongFalsely : Prop := viewNewerRow.holds Try.pinned (OpenSpec.ofChange viewNewerWrong)

/-- 'tattlerlaw17.ViewAnyOrder': WHATEVER THE INPUT: true; the input reads as it did. -/
def viewAnyOrderSpec : ChangeSpec := { name := "viewAnyOrder", fn := fun _ => fun
  | [d1, d2, d3, d4, d5] => { results := [.lit (.bool true)], args := [d1, d2, d3, d4, d5] }
  | _ => none }
def viewAnyOrderRow : OpenClaim := { program := "ythpfknigommheaa", sum := "f19378478a247181178eaa7cfa6f9cd5f0159cd03874767df298dd27a387122c", func := "tattler/tattlerlaw17.ViewAnyOrder", spec := "viewAnyOrder", apart := false }
def ViewAnyOrderSaid : Prop := viewAnyOrderRow.holds Try.pinned (OpenSpec.ofChange viewAnyOrderSpec)

/-- ITS FALSE NEIGHBOUR: 'it returns false'. Refute it at one input. -/
def viewAnyOrderWrong : ChangeSpec := { name := "viewAnyOrder", fn := fun _ => fun
  | [d1, d2, d3, d4, d5] => { results := [.lit (.bool false)], args := [d1, d2, d3, d4, d5] }
  | _ => none }
def ViewAnyOrderWrongFalsely : Prop := viewAnyOrderRow.holds Try.pinned (OpenSpec.ofChange viewAnyOrderWrong)

/-- 'tattlerlaw17.ViewFull': WHATEVER THE INPUT: true; the input reads as it did. -/
def viewFullSpec : ChangeSpec := { name := "viewFull", fn := fun _ => fun
  | [d1, d2, d3] => { results := [.lit (.bool true)], args := [d1, d2, d3] }
  | _ => none }
def viewFullRow : OpenClaim := { program := "ythpfknigommheaa", sum := "f19378478a247181178eaa7cfa6f9cd5f0159cd03874767df298dd27a387122c", func := "tattler/tattlerlaw17.ViewFull", spec := "viewFull", apart := false }
def ViewFullSaid : Prop := viewFullRow.holds Try.pinned (OpenSpec.ofChange viewFullSpec)

/-- ITS FALSE NEIGHBOUR: 'it returns false'. Refute it at one input. -/
def viewFullWrong : ChangeSpec := { name := "viewFull", fn := fun _ => fun
  | [d1, d2, d3] => { results := [.lit (.bool false)], args := [d1, d2, d3] }
  | _ => none }
def ViewFullWrongFalsely : Prop := viewFullRow.holds Try.pinned (OpenSpec.ofChange viewFullWrong)

/-- 'tattlerlaw17.ViewMeet': WHATEVER THE INPUT: true; the input reads as it did. -/
def viewMeetSpec : ChangeSpec := { name := "viewMeet", fn := fun _ => fun
  | [d1, d2, d3, d4] => { results := [.lit (.bool true)], args := [d1, d2, d3, d4] }
  | _ => none }
def viewMeetRow : OpenClaim := { program := "ythpfknigommheaa", sum := "f19378478a247181178eaa7cfa6f9cd5f0159cd03874767df298dd27a387122c", func := "tattler/tattlerlaw17.ViewMeet", spec := "viewMeet", apart := false }
def ViewMeetSaid : Prop := viewMeetRow.holds Try.pinned (OpenSpec.ofChange viewMeetSpec)

/-- ITS FALSE NEIGHBOUR: 'it returns false'. Refute it at one input. -/
def viewMeetWrong : ChangeSpec := { name := "viewMeet", fn := fun _ => fun
  | [d1, d2, d3, d4] => { results := [.lit (.bool false)], args := [d1, d2, d3, d4] }
  | _ => none }
def ViewMeetWrongFalsely : Prop := viewMeetRow.holds Try.pinned (OpenSpec.ofChange viewMeetWrong)

/-- 'tattlerlaw17.ViewTells': WHATEVER THE INPUT: true; the input reads as it did. -/
def viewTellsSpec : ChangeSpec := { name := "viewTells", fn := fun _ => fun
  | [d1, d2, d3, d4] => { results := [.lit (.bool true)], args := [d1, d2, d3, d4] }
  | _ => none }
def viewTellsRow : OpenClaim := { program := "ythpfknigommheaa", sum := "f19378478a247181178eaa7cfa6f9cd5f0159cd03874767df298dd27a387122c", func := "tattler/tattlerlaw17.ViewTells", spec := "viewTells", apart := false }
def ViewTellsSaid : Prop := viewTellsRow.holds Try.pinned (OpenSpec.ofChange viewTellsSpec)

/-- ITS FALSE NEIGHBOUR: 'it returns false'. Refute it at one input. -/
def viewTellsWrong : ChangeSpec := { name := "viewTells", fn := fun _ => fun
  | [d1, d2, d3, d4] => { results := [.lit (.bool false)], args := [d1, d2, d3, d4] }
  | _ => none }
def ViewTellsWrongFalsely : Prop := viewTellsRow.holds Try.pinned (OpenSpec.ofChange viewTellsWrong)

/- THE SECOND FORM. 'bulk': how many values and letters a reading holds, each counted each time it is reached (what is shared counts as often as it is met; a slice's spare places count too). A statement '..UptoSaid' is the law's where the arguments, and the package variables that the reading takes, are together of bulk at most 1048576: NARROWER than '..Said'. Prove '..Said' where nothing that the law and all that it calls make is longer than what came in: it says more and counts as full. Else prove '..UptoSaid'. A law counts once. -/
mutual
def uptoBulk {H : Type} : DataW H → Nat
  | .lit (.string bytes) => bytes.length + 1
  | .lit _ => 1
  | .nil => 1
  | .ptr d => uptoBulk d + 1
  | .slice elems spare => uptoBulkAll elems + uptoBulkAll spare + 1
  | .agg parts => uptoBulkAll parts + 1
  | .iface _ d => uptoBulk d + 1
  | .map entries => uptoBulkEntries entries + 1
  | .held _ => 1
def uptoBulkAll {H : Type} : List (DataW H) → Nat
  | [] => 0
  | d :: r => uptoBulk d + uptoBulkAll r
def uptoBulkEntries {H : Type} : List (Lit × DataW H) → Nat
  | [] => 0
  | x :: r => uptoBulkEntry x + uptoBulkEntries r
def uptoBulkEntry {H : Type} : Lit × DataW H → Nat
  | (.string bytes, d) => bytes.length + uptoBulk d + 1
  | (_, d) => uptoBulk d + 1
 end
def uptoSmall : (H : Type) → List (DataW H) → Bool := fun _ ds => decide (uptoBulkAll ds ≤ 1048576)
def OpenSpec.upto (s : _root_.Go.ChangeSpec) : _root_.Go.OpenSpec := { _root_.Go.OpenSpec.ofChange s with cond := some uptoSmall }

/-- 'tattlerlaw17.ViewHears', WHERE WHAT IT READS IS OF BULK AT MOST 1048576: true; the input reads as it did. -/
def viewHearsUptoRow : OpenClaim := { program := "ythpfknigommheaa", sum := "f19378478a247181178eaa7cfa6f9cd5f0159cd03874767df298dd27a387122c", func := "tattler/tattlerlaw17.ViewHears", spec := "viewHears", apart := false, narrowed := true }
def ViewHearsUptoSaid : Prop := viewHearsUptoRow.holds Try.pinned (OpenSpec.upto viewHearsSpec)

/-- 'tattlerlaw17.ViewNewer', WHERE WHAT IT READS IS OF BULK AT MOST 1048576: true; the input reads as it did. -/
def viewNewerUptoRow : OpenClaim := { program := "ythpfknigommheaa", sum := "f19378478a247181178eaa7cfa6f9cd5f0159cd03874767df298dd27a387122c", func := "tattler/tattlerlaw17.ViewNewer", spec := "viewNewer", apart := false, narrowed := true }
def ViewNewerUptoSaid : Prop := viewNewerUptoRow.holds Try.pinned (OpenSpec.upto viewNewerSpec)

/-- 'tattlerlaw17.ViewAnyOrder', WHERE WHAT IT READS IS OF BULK AT MOST 1048576: true; the input reads as it did. -/
def viewAnyOrderUptoRow : OpenClaim := { program := "ythpfknigommheaa", sum := "f19378478a247181178eaa7cfa6f9cd5f0159cd03874767df298dd27a387122c", func := "tattler/tattlerlaw17.ViewAnyOrder", spec := "viewAnyOrder", apart := false, narrowed := true }
def ViewAnyOrderUptoSaid : Prop := viewAnyOrderUptoRow.holds Try.pinned (OpenSpec.upto viewAnyOrderSpec)

/-- 'tattlerlaw17.ViewFull', WHERE WHAT IT READS IS OF BULK AT MOST 1048576: true; the input reads as it did. -/
def viewFullUptoRow : OpenClaim := { program := "ythpfknigommheaa", sum := "f19378478a247181178eaa7cfa6f9cd5f0159cd03874767df298dd27a387122c", func := "tattler/tattlerlaw17.ViewFull", spec := "viewFull", apart := false, narrowed := true }
def ViewFullUptoSaid : Prop := viewFullUptoRow.holds Try.pinned (OpenSpec.upto viewFullSpec)

/-- 'tattlerlaw17.ViewMeet', WHERE WHAT IT READS IS OF BULK AT MOST 1048576: true; the input reads as it did. -/
def viewMeetUptoRow : OpenClaim := { program := "ythpfknigommheaa", sum := "f19378478a247181178eaa7cfa6f9cd5f0159cd03874767df298dd27a387122c", func := "tattler/tattlerlaw17.ViewMeet", spec := "viewMeet", apart := false, narrowed := true }
def ViewMeetUptoSaid : Prop := viewMeetUptoRow.holds Try.pinned (OpenSpec.upto viewMeetSpec)

/-- 'tattlerlaw17.ViewTells', WHERE WHAT IT READS IS OF BULK AT MOST 1048576: true; the input reads as it did. -/
def viewTellsUptoRow : OpenClaim := { program := "ythpfknigommheaa", sum := "f19378478a247181178eaa7cfa6f9cd5f0159cd03874767df298dd27a387122c", func := "tattler/tattlerlaw17.ViewTells", spec := "viewTells", apart := false, narrowed := true }
def ViewTellsUptoSaid : Prop := viewTellsUptoRow.holds Try.pinned (OpenSpec.upto viewTellsSpec)

end Rows
end Go.Proofs.Ythpfknigommheaa
