/-
  No cell of these rows narrows 'for every input' (looked for: loops, veiled, ifaces, maps, wideKeys, modest, calm, conditions, laid).
  DERIVED. THE GIVEN ROWS OF THIS SEAT. 5 by the template 'for every input the law returns true; each argument reads behind the call as it read before'; 0 by the template 'total and deterministic' (their statements: YtakhofmnldlppaaTotals.lean).
  GIVEN WITH THE SEED: the statements are not yours to turn. If you find one false, say at which input.
  Laid BY PROGRAM, IN A SANDBOX (cutbox-rows.mjs): the forced cells as the released guide's own fill.sh prints them over the translation a615eb1586982fda… (all of the seat's roots in one cut). By AI agents, Wed Nov 11 2026. No macro, syntax, notation, axiom, sorry.
-/
import Derived.Test.YtakhofmnldlppaaChecked
import GoSem.Claim
import GoSem.ClaimJoined
import GoSem.ClaimMapViews
import Derived.JoinedTies
import Derived.KernelRfl
namespace Go.Proofs.Ytakhofmnldlppaa
/- THE CELL 'sum', in the pinned program and in every row, IS THE sha256 OF THE DUMP (.gsa) THAT YtakhofmnldlppaaProg.lean LOADS. Nothing in Lean hashes anything: it is a label: what it is worth is what the hold of that sum in a sandbox is worth. -/
noncomputable def Try.pinned : Pinned := { name := "ytakhofmnldlppaa", sum := "a615eb1586982fda58dfae7e1f7f41e3592a0dd9b5cd2c3dc3699bf2d1a13708", checked := Try.checked }
namespace Rows
def none {H : Type} : Left H := { results := [], args := [] }

/-- 'tattlerlaw10.SlotsMap': WHATEVER THE INPUT: true; the input reads as it did. -/
def slotsMapSpec : ChangeSpec := { name := "slotsMap", fn := fun _ => fun
  | [d1, d2, d3] => { results := [.lit (.bool true)], args := [d1, d2, d3] }
  | _ => none }
def slotsMapRow : OpenClaim := { program := "ytakhofmnldlppaa", sum := "a615eb1586982fda58dfae7e1f7f41e3592a0dd9b5cd2c3dc3699bf2d1a13708", func := "tattler/tattlerlaw10.SlotsMap", spec := "slotsMap", apart := false }
def SlotsMapSaid : Prop := slotsMapRow.holds Try.pinned (OpenSpec.ofChange slotsMapSpec)

/-- ITS FALSE NEIGHBOUR: 'it returns false'. Refute it at one input. -/
def slotsMapWrong : ChangeSpec := { name := "slotsMap", fn := fun _ => fun
  | [d1, d2, d3] => { results := [.lit (.bool false)], args := [d1, d2, d3] }
  | _ => none }
def SlotsMapWrongFalsely : Prop := slotsMapRow.holds Try.pinned (OpenSpec.ofChange slotsMapWrong)

/-- 'tattlerlaw10.SlotsPlays': WHATEVER THE INPUT: true; the input reads as it did. -/
def slotsPlaysSpec : ChangeSpec := { name := "slotsPlays", fn := fun _ => fun
  | [d1, d2] => { results := [.lit (.bool true)], args := [d1, d2] }
  | _ => none }
def slotsPlaysRow : OpenClaim := { program := "ytakhofmnldlppaa", sum := "a615eb1586982fda58dfae7e1f7f41e3592a0dd9b5cd2c3dc3699bf2d1a13708", func := "tattler/tattlerlaw10.SlotsPlays", spec := "slotsPlays", apart := false }
def SlotsPlaysSaid : Prop := slotsPlaysRow.holds Try.pinned (OpenSpec.ofChange slotsPlaysSpec)

/-- ITS FALSE NEIGHBOUR: 'it returns false'. Refute it at one input. -/
def slotsPlaysWrong : ChangeSpec := { name := "slotsPlays", fn := fun _ => fun
  | [d1, d2] => { results := [.lit (.bool false)], args := [d1, d2] }
  | _ => none }
def SlotsPlaysWrongFalsely : Prop := slotsPlaysRow.holds Try.pinned (OpenSpec.ofChange slotsPlaysWrong)

/-- 'tattlerlaw10.SlotsHome': WHATEVER THE INPUT: true; the input reads as it did. -/
def slotsHomeSpec : ChangeSpec := { name := "slotsHome", fn := fun _ => fun
  | [d1, d2] => { results := [.lit (.bool true)], args := [d1, d2] }
  | _ => none }
def slotsHomeRow : OpenClaim := { program := "ytakhofmnldlppaa", sum := "a615eb1586982fda58dfae7e1f7f41e3592a0dd9b5cd2c3dc3699bf2d1a13708", func := "tattler/tattlerlaw10.SlotsHome", spec := "slotsHome", apart := false }
def SlotsHomeSaid : Prop := slotsHomeRow.holds Try.pinned (OpenSpec.ofChange slotsHomeSpec)

/-- ITS FALSE NEIGHBOUR: 'it returns false'. Refute it at one input. -/
def slotsHomeWrong : ChangeSpec := { name := "slotsHome", fn := fun _ => fun
  | [d1, d2] => { results := [.lit (.bool false)], args := [d1, d2] }
  | _ => none }
def SlotsHomeWrongFalsely : Prop := slotsHomeRow.holds Try.pinned (OpenSpec.ofChange slotsHomeWrong)

/-- 'tattlerlaw10.SlotsNil': WHATEVER THE INPUT: true; the input reads as it did. -/
def slotsNilSpec : ChangeSpec := { name := "slotsNil", fn := fun _ => fun
  | [d1, d2] => { results := [.lit (.bool true)], args := [d1, d2] }
  | _ => none }
def slotsNilRow : OpenClaim := { program := "ytakhofmnldlppaa", sum := "a615eb1586982fda58dfae7e1f7f41e3592a0dd9b5cd2c3dc3699bf2d1a13708", func := "tattler/tattlerlaw10.SlotsNil", spec := "slotsNil", apart := false }
def SlotsNilSaid : Prop := slotsNilRow.holds Try.pinned (OpenSpec.ofChange slotsNilSpec)

/-- ITS FALSE NEIGHBOUR: 'it returns false'. Refute it at one input. -/
def slotsNilWrong : ChangeSpec := { name := "slotsNil", fn := fun _ => fun
  | [d1, d2] => { results := [.lit (.bool false)], args := [d1, d2] }
  | _ => none }
def SlotsNilWrongFalsely : Prop := slotsNilRow.holds Try.pinned (OpenSpec.ofChange slotsNilWrong)

/-- 'tattlerlaw10.SlotsEmpty': WHATEVER THE INPUT: true; the input reads as it did. -/
def slotsEmptySpec : ChangeSpec := { name := "slotsEmpty", fn := fun _ => fun
  | [d1, d2, d3] => { results := [.lit (.bool true)], args := [d1, d2, d3] }
  | _ => none }
def slotsEmptyRow : OpenClaim := { program := "ytakhofmnldlppaa", sum := "a615eb1586982fda58dfae7e1f7f41e3592a0dd9b5cd2c3dc3699bf2d1a13708", func := "tattler/tattlerlaw10.SlotsEmpty", spec := "slotsEmpty", apart := false }
def SlotsEmptySaid : Prop := slotsEmptyRow.holds Try.pinned (OpenSpec.ofChange slotsEmptySpec)

/-- ITS FALSE NEIGHBOUR: 'it returns false'. Refute it at one input. -/
def slotsEmptyWrong : ChangeSpec := { name := "slotsEmpty", fn := fun _ => fun
  | [d1, d2, d3] => { results := [.lit (.bool false)], args := [d1, d2, d3] }
  | _ => none }
def SlotsEmptyWrongFalsely : Prop := slotsEmptyRow.holds Try.pinned (OpenSpec.ofChange slotsEmptyWrong)

/- THE SECOND FORM. 'bulk': how many values and letters a reading holds, each counted each time it is reached (what is shared counts as often as it is met; a slice's spare places count too). A statement '..UptoSaid' is the law's where the arguments, and the package variables that the reading takes, are together of bulk at most 1048576: NARROWER than '..Said'. Prove '..Said' where nothing that the law and all that it calls make is longer than what came in: it says more and counts as full. Else prove '..UptoSaid'. A law counts once. -/
mutual
def uptoBulk {H : Type} : DataW H → Nat
  | .lit (.string bytes) => bytes.length + 1
  | .lit _ => 1
  | .nil => 1
  | .ptr d => uptoBulk d + 1
  | .slice elems spare => uptoBulkAll elems + uptoBulkAll spare + 1
  | .agg parts => uptoBulkAll parts + 1
  | .iface _ d => uptoBulk d + 1
  | .map entries => uptoBulkEntries entries + 1
  | .held _ => 1
def uptoBulkAll {H : Type} : List (DataW H) → Nat
  | [] => 0
  | d :: r => uptoBulk d + uptoBulkAll r
def uptoBulkEntries {H : Type} : List (Lit × DataW H) → Nat
  | [] => 0
  | x :: r => uptoBulkEntry x + uptoBulkEntries r
def uptoBulkEntry {H : Type} : Lit × DataW H → Nat
  | (.string bytes, d) => bytes.length + uptoBulk d + 1
  | (_, d) => uptoBulk d + 1
 end
def uptoSmall : (H : Type) → List (DataW H) → Bool := fun _ ds => decide (uptoBulkAll ds ≤ 1048576)
def OpenSpec.upto (s : _root_.Go.ChangeSpec) : _root_.Go.OpenSpec := { _root_.Go.OpenSpec.ofChange s with cond := some uptoSmall }

/-- 'tattlerlaw10.SlotsMap', WHERE WHAT IT READS IS OF BULK AT MOST 1048576: true; the input reads as it did. -/
def slotsMapUptoRow : OpenClaim := { program := "ytakhofmnldlppaa", sum := "a615eb1586982fda58dfae7e1f7f41e3592a0dd9b5cd2c3dc3699bf2d1a13708", func := "tattler/tattlerlaw10.SlotsMap", spec := "slotsMap", apart := false, narrowed := true }
def SlotsMapUptoSaid : Prop := slotsMapUptoRow.holds Try.pinned (OpenSpec.upto slotsMapSpec)

/-- 'tattlerlaw10.SlotsPlays', WHERE WHAT IT READS IS OF BULK AT MOST 1048576: true; the input reads as it did. -/
def slotsPlaysUptoRow : OpenClaim := { program := "ytakhofmnldlppaa", sum := "a615eb1586982fda58dfae7e1f7f41e3592a0dd9b5cd2c3dc3699bf2d1a13708", func := "tattler/tattlerlaw10.SlotsPlays", spec := "slotsPlays", apart := false, narrowed := true }
def SlotsPlaysUptoSaid : Prop := slotsPlaysUptoRow.holds Try.pinned (OpenSpec.upto slotsPlaysSpec)

/-- 'tattlerlaw10.SlotsHome', WHERE WHAT IT READS IS OF BULK AT MOST 1048576: true; the input reads as it did. -/
def slotsHomeUptoRow : OpenClaim := { program := "ytakhofmnldlppaa", sum := "a615eb1586982fda58dfae7e1f7f41e3592a0dd9b5cd2c3dc3699bf2d1a13708", func := "tattler/tattlerlaw10.SlotsHome", spec := "slotsHome", apart := false, narrowed := true }
def SlotsHomeUptoSaid : Prop := slotsHomeUptoRow.holds Try.pinned (OpenSpec.upto slotsHomeSpec)

/-- 'tattlerlaw10.SlotsNil', WHERE WHAT IT READS IS OF BULK AT MOST 1048576: true; the input reads as it did. -/
def slotsNilUptoRow : OpenClaim := { program := "ytakhofmnldlppaa", sum := "a615eb1586982fda58dfae7e1f7f41e3592a0dd9b5cd2c3dc3699bf2d1a13708", func := "tattler/tattlerlaw10.SlotsNil", spec := "slotsNil", apart := false, narrowed := true }
def SlotsNilUptoSaid : Prop := slotsNilUptoRow.holds Try.pinned (OpenSpec.upto slotsNilSpec)

/-- 'tattlerlaw10.SlotsEmpty', WHERE WHAT IT READS IS OF BULK AT MOST 1048576: true; the input reads as it did. -/
def slotsEmptyUptoRow : OpenClaim := { program := "ytakhofmnldlppaa", sum := "a615eb1586982fda58dfae7e1f7f41e3592a0dd9b5cd2c3dc3699bf2d1a13708", func := "tattler/tattlerlaw10.SlotsEmpty", spec := "slotsEmpty", apart := false, narrowed := true }
def SlotsEmptyUptoSaid : Prop := slotsEmptyUptoRow.holds Try.pinned (OpenSpec.upto slotsEmptySpec)

end Rows
end Go.Proofs.Ytakhofmnldlppaa
