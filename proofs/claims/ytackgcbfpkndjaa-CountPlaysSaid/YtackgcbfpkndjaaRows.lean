/-
  No cell of these rows narrows 'for every input' (looked for: loops, veiled, ifaces, maps, wideKeys, modest, calm, conditions, laid).
  DERIVED. THE GIVEN ROWS OF THIS SEAT. 4 by the template 'for every input the law returns true; each argument reads behind the call as it read before'; 0 by the template 'total and deterministic' (their statements: YtackgcbfpkndjaaTotals.lean).
  GIVEN WITH THE SEED: the statements are not yours to turn. If you find one false, say at which input.
  Laid BY PROGRAM, IN A SANDBOX (cutbox-rows.mjs): the forced cells as the released guide's own fill.sh prints them over the translation e20abb7dc93ce281… (all of the seat's roots in one cut). By AI agents, Wed Nov 11 2026. No macro, syntax, notation, axiom, sorry.
-/
import Derived.Test.YtackgcbfpkndjaaChecked
import GoSem.Claim
import GoSem.ClaimJoined
import GoSem.ClaimMapViews
import Derived.JoinedTies
import Derived.KernelRfl
namespace Go.Proofs.Ytackgcbfpkndjaa
/- THE CELL 'sum', in the pinned program and in every row, IS THE sha256 OF THE DUMP (.gsa) THAT YtackgcbfpkndjaaProg.lean LOADS. Nothing in Lean hashes anything: it is a label: what it is worth is what the hold of that sum in a sandbox is worth. -/
noncomputable def Try.pinned : Pinned := { name := "ytackgcbfpkndjaa", sum := "e20abb7dc93ce28116221224f42f8192571dee14d4fafe9d3b971e3b7185924c", checked := Try.checked }
namespace Rows
def none {H : Type} : Left H := { results := [], args := [] }

/-- 'tattlerlaw23.CountRound': WHATEVER THE INPUT: true; the input reads as it did. -/
def countRoundSpec : ChangeSpec := { name := "countRound", fn := fun _ => fun
  | [d] => { results := [.lit (.bool true)], args := [d] }
  | _ => none }
def countRoundRow : OpenClaim := { program := "ytackgcbfpkndjaa", sum := "e20abb7dc93ce28116221224f42f8192571dee14d4fafe9d3b971e3b7185924c", func := "tattler/tattlerlaw23.CountRound", spec := "countRound", inPlace := ["sync/atomic.LoadUint64", "sync/atomic.CompareAndSwapUint64"], apart := false }
def CountRoundSaid : Prop := countRoundRow.holds Try.pinned (OpenSpec.ofChange countRoundSpec)

/-- ITS FALSE NEIGHBOUR: 'it returns false'. Refute it at one input. -/
def countRoundWrong : ChangeSpec := { name := "countRound", fn := fun _ => fun
  | [d] => { results := [.lit (.bool false)], args := [d] }
  | _ => none }
def CountRoundWrongFalsely : Prop := countRoundRow.holds Try.pinned (OpenSpec.ofChange countRoundWrong)

/-- 'tattlerlaw23.CountApart': WHATEVER THE INPUT: true; the input reads as it did. -/
def countApartSpec : ChangeSpec := { name := "countApart", fn := fun _ => fun
  | [d1, d2] => { results := [.lit (.bool true)], args := [d1, d2] }
  | _ => none }
def countApartRow : OpenClaim := { program := "ytackgcbfpkndjaa", sum := "e20abb7dc93ce28116221224f42f8192571dee14d4fafe9d3b971e3b7185924c", func := "tattler/tattlerlaw23.CountApart", spec := "countApart", inPlace := ["sync/atomic.LoadUint64", "sync/atomic.CompareAndSwapUint64"], apart := false }
def CountApartSaid : Prop := countApartRow.holds Try.pinned (OpenSpec.ofChange countApartSpec)

/-- ITS FALSE NEIGHBOUR: 'it returns false'. Refute it at one input. -/
def countApartWrong : ChangeSpec := { name := "countApart", fn := fun _ => fun
  | [d1, d2] => { results := [.lit (.bool false)], args := [d1, d2] }
  | _ => none }
def CountApartWrongFalsely : Prop := countApartRow.holds Try.pinned (OpenSpec.ofChange countApartWrong)

/-- 'tattlerlaw23.CountPlays': WHATEVER THE INPUT: true; the input reads as it did. -/
def countPlaysSpec : ChangeSpec := { name := "countPlays", fn := fun _ => fun
  | [d1, d2] => { results := [.lit (.bool true)], args := [d1, d2] }
  | _ => none }
def countPlaysRow : OpenClaim := { program := "ytackgcbfpkndjaa", sum := "e20abb7dc93ce28116221224f42f8192571dee14d4fafe9d3b971e3b7185924c", func := "tattler/tattlerlaw23.CountPlays", spec := "countPlays", inPlace := ["sync/atomic.LoadUint64", "sync/atomic.CompareAndSwapUint64", "sync/atomic.SwapUint64"], apart := false }
def CountPlaysSaid : Prop := countPlaysRow.holds Try.pinned (OpenSpec.ofChange countPlaysSpec)

/-- ITS FALSE NEIGHBOUR: 'it returns false'. Refute it at one input. -/
def countPlaysWrong : ChangeSpec := { name := "countPlays", fn := fun _ => fun
  | [d1, d2] => { results := [.lit (.bool false)], args := [d1, d2] }
  | _ => none }
def CountPlaysWrongFalsely : Prop := countPlaysRow.holds Try.pinned (OpenSpec.ofChange countPlaysWrong)

/-- 'tattlerlaw23.CountLost': WHATEVER THE INPUT: true; the input reads as it did. -/
def countLostSpec : ChangeSpec := { name := "countLost", fn := fun _ => fun
  | [d] => { results := [.lit (.bool true)], args := [d] }
  | _ => none }
def countLostRow : OpenClaim := { program := "ytackgcbfpkndjaa", sum := "e20abb7dc93ce28116221224f42f8192571dee14d4fafe9d3b971e3b7185924c", func := "tattler/tattlerlaw23.CountLost", spec := "countLost", inPlace := ["sync/atomic.LoadUint64", "sync/atomic.CompareAndSwapUint64", "sync/atomic.SwapUint64"], apart := false }
def CountLostSaid : Prop := countLostRow.holds Try.pinned (OpenSpec.ofChange countLostSpec)

/-- ITS FALSE NEIGHBOUR: 'it returns false'. Refute it at one input. -/
def countLostWrong : ChangeSpec := { name := "countLost", fn := fun _ => fun
  | [d] => { results := [.lit (.bool false)], args := [d] }
  | _ => none }
def CountLostWrongFalsely : Prop := countLostRow.holds Try.pinned (OpenSpec.ofChange countLostWrong)

/- THE SECOND FORM. 'bulk': how many values and letters a reading holds, each counted each time it is reached (what is shared counts as often as it is met; a slice's spare places count too). A statement '..UptoSaid' is the law's where the arguments, and the package variables that the reading takes, are together of bulk at most 1048576: NARROWER than '..Said'. Prove '..Said' where nothing that the law and all that it calls make is longer than what came in: it says more and counts as full. Else prove '..UptoSaid'. A law counts once. -/
mutual
def uptoBulk {H : Type} : DataW H → Nat
  | .lit (.string bytes) => bytes.length + 1
  | .lit _ => 1
  | .nil => 1
  | .ptr d => uptoBulk d + 1
  | .slice elems spare => uptoBulkAll elems + uptoBulkAll spare + 1
  | .agg parts => uptoBulkAll parts + 1
  | .iface _ d => uptoBulk d + 1
  | .map entries => uptoBulkEntries entries + 1
  | .held _ => 1
def uptoBulkAll {H : Type} : List (DataW H) → Nat
  | [] => 0
  | d :: r => uptoBulk d + uptoBulkAll r
def uptoBulkEntries {H : Type} : List (Lit × DataW H) → Nat
  | [] => 0
  | x :: r => uptoBulkEntry x + uptoBulkEntries r
def uptoBulkEntry {H : Type} : Lit × DataW H → Nat
  | (.string bytes, d) => bytes.length + uptoBulk d + 1
  | (_, d) => uptoBulk d + 1
 end
def uptoSmall : (H : Type) → List (DataW H) → Bool := fun _ ds => decide (uptoBulkAll ds ≤ 1048576)
def OpenSpec.upto (s : _root_.Go.ChangeSpec) : _root_.Go.OpenSpec := { _root_.Go.OpenSpec.ofChange s with cond := some uptoSmall }

/-- 'tattlerlaw23.CountRound', WHERE WHAT IT READS IS OF BULK AT MOST 1048576: true; the input reads as it did. -/
def countRoundUptoRow : OpenClaim := { program := "ytackgcbfpkndjaa", sum := "e20abb7dc93ce28116221224f42f8192571dee14d4fafe9d3b971e3b7185924c", func := "tattler/tattlerlaw23.CountRound", spec := "countRound", inPlace := ["sync/atomic.LoadUint64", "sync/atomic.CompareAndSwapUint64"], apart := false, narrowed := true }
def CountRoundUptoSaid : Prop := countRoundUptoRow.holds Try.pinned (OpenSpec.upto countRoundSpec)

/-- 'tattlerlaw23.CountApart', WHERE WHAT IT READS IS OF BULK AT MOST 1048576: true; the input reads as it did. -/
def countApartUptoRow : OpenClaim := { program := "ytackgcbfpkndjaa", sum := "e20abb7dc93ce28116221224f42f8192571dee14d4fafe9d3b971e3b7185924c", func := "tattler/tattlerlaw23.CountApart", spec := "countApart", inPlace := ["sync/atomic.LoadUint64", "sync/atomic.CompareAndSwapUint64"], apart := false, narrowed := true }
def CountApartUptoSaid : Prop := countApartUptoRow.holds Try.pinned (OpenSpec.upto countApartSpec)

/-- 'tattlerlaw23.CountPlays', WHERE WHAT IT READS IS OF BULK AT MOST 1048576: true; the input reads as it did. -/
def countPlaysUptoRow : OpenClaim := { program := "ytackgcbfpkndjaa", sum := "e20abb7dc93ce28116221224f42f8192571dee14d4fafe9d3b971e3b7185924c", func := "tattler/tattlerlaw23.CountPlays", spec := "countPlays", inPlace := ["sync/atomic.LoadUint64", "sync/atomic.CompareAndSwapUint64", "sync/atomic.SwapUint64"], apart := false, narrowed := true }
def CountPlaysUptoSaid : Prop := countPlaysUptoRow.holds Try.pinned (OpenSpec.upto countPlaysSpec)

/-- 'tattlerlaw23.CountLost', WHERE WHAT IT READS IS OF BULK AT MOST 1048576: true; the input reads as it did. -/
def countLostUptoRow : OpenClaim := { program := "ytackgcbfpkndjaa", sum := "e20abb7dc93ce28116221224f42f8192571dee14d4fafe9d3b971e3b7185924c", func := "tattler/tattlerlaw23.CountLost", spec := "countLost", inPlace := ["sync/atomic.LoadUint64", "sync/atomic.CompareAndSwapUint64", "sync/atomic.SwapUint64"], apart := false, narrowed := true }
def CountLostUptoSaid : Prop := countLostUptoRow.holds Try.pinned (OpenSpec.upto countLostSpec)

end Rows
end Go.Proofs.Ytackgcbfpkndjaa
