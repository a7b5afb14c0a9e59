/-
  No cell of these rows narrows 'for every input' (looked for: loops, veiled, ifaces, maps, wideKeys, modest, calm, conditions, laid).
  DERIVED. THE GIVEN ROWS OF THIS SEAT. 6 by the template 'for every input the law returns true; each argument reads behind the call as it read before'; 0 by the template 'total and deterministic' (their statements: YtibgfmkgojeefaaTotals.lean).
  GIVEN WITH THE SEED: the statements are not yours to turn. If you find one false, say at which input.
  Laid BY PROGRAM, IN A SANDBOX (cutbox-rows.mjs): the forced cells as the released guide's own fill.sh prints them over the translation 11b62a9eb5e4d829… (all of the seat's roots in one cut). By AI agents, Wed Nov 11 2026. No macro, syntax, notation, axiom, sorry.
-/
import Derived.Test.YtibgfmkgojeefaaChecked
import GoSem.Claim
import GoSem.ClaimJoined
import GoSem.ClaimMapViews
import Derived.JoinedTies
import Derived.KernelRfl
namespace Go.Proofs.Ytibgfmkgojeefaa
/- THE CELL 'sum', in the pinned program and in every row, IS THE sha256 OF THE DUMP (.gsa) THAT YtibgfmkgojeefaaProg.lean LOADS. Nothing in Lean hashes anything: it is a label: what it is worth is what the hold of that sum in a sandbox is worth. -/
noncomputable def Try.pinned : Pinned := { name := "ytibgfmkgojeefaa", sum := "11b62a9eb5e4d82941852c34999154af193deb88ba8a7b420e87ced81eacbb44", checked := Try.checked }
namespace Rows
def none {H : Type} : Left H := { results := [], args := [] }

/-- 'tattlerlaw14.TreeDown': WHATEVER THE INPUT: true; the input reads as it did. -/
def treeDownSpec : ChangeSpec := { name := "treeDown", fn := fun _ => fun
  | [d1, d2] => { results := [.lit (.bool true)], args := [d1, d2] }
  | _ => none }
def treeDownRow : OpenClaim := { program := "ytibgfmkgojeefaa", sum := "11b62a9eb5e4d82941852c34999154af193deb88ba8a7b420e87ced81eacbb44", func := "tattler/tattlerlaw14.TreeDown", spec := "treeDown", unfollowed := true, recurses := true, apart := false }
def TreeDownSaid : Prop := treeDownRow.holds Try.pinned (OpenSpec.ofChange treeDownSpec)

/-- ITS FALSE NEIGHBOUR: 'it returns false'. Refute it at one input. -/
def treeDownWrong : ChangeSpec := { name := "treeDown", fn := fun _ => fun
  | [d1, d2] => { results := [.lit (.bool false)], args := [d1, d2] }
  | _ => none }
def TreeDownWrongFalsely : Prop := treeDownRow.holds Try.pinned (OpenSpec.ofChange treeDownWrong)

/-- 'tattlerlaw14.TreeWalks': WHATEVER THE INPUT: true; the input reads as it did. -/
def treeWalksSpec : ChangeSpec := { name := "treeWalks", fn := fun _ => fun
  | [d1, d2] => { results := [.lit (.bool true)], args := [d1, d2] }
  | _ => none }
def treeWalksRow : OpenClaim := { program := "ytibgfmkgojeefaa", sum := "11b62a9eb5e4d82941852c34999154af193deb88ba8a7b420e87ced81eacbb44", func := "tattler/tattlerlaw14.TreeWalks", spec := "treeWalks", unfollowed := true, recurses := true, apart := false }
def TreeWalksSaid : Prop := treeWalksRow.holds Try.pinned (OpenSpec.ofChange treeWalksSpec)

/-- ITS FALSE NEIGHBOUR: 'it returns false'. Refute it at one input. -/
def treeWalksWrong : ChangeSpec := { name := "treeWalks", fn := fun _ => fun
  | [d1, d2] => { results := [.lit (.bool false)], args := [d1, d2] }
  | _ => none }
def TreeWalksWrongFalsely : Prop := treeWalksRow.holds Try.pinned (OpenSpec.ofChange treeWalksWrong)

/-- 'tattlerlaw14.TreePlays': WHATEVER THE INPUT: true; the input reads as it did. -/
def treePlaysSpec : ChangeSpec := { name := "treePlays", fn := fun _ => fun
  | [d1, d2, d3] => { results := [.lit (.bool true)], args := [d1, d2, d3] }
  | _ => none }
def treePlaysRow : OpenClaim := { program := "ytibgfmkgojeefaa", sum := "11b62a9eb5e4d82941852c34999154af193deb88ba8a7b420e87ced81eacbb44", func := "tattler/tattlerlaw14.TreePlays", spec := "treePlays", unfollowed := true, recurses := true, apart := false }
def TreePlaysSaid : Prop := treePlaysRow.holds Try.pinned (OpenSpec.ofChange treePlaysSpec)

/-- ITS FALSE NEIGHBOUR: 'it returns false'. Refute it at one input. -/
def treePlaysWrong : ChangeSpec := { name := "treePlays", fn := fun _ => fun
  | [d1, d2, d3] => { results := [.lit (.bool false)], args := [d1, d2, d3] }
  | _ => none }
def TreePlaysWrongFalsely : Prop := treePlaysRow.holds Try.pinned (OpenSpec.ofChange treePlaysWrong)

/-- 'tattlerlaw14.TreeTwo': WHATEVER THE INPUT: true; the input reads as it did. -/
def treeTwoSpec : ChangeSpec := { name := "treeTwo", fn := fun _ => fun
  | [d1, d2] => { results := [.lit (.bool true)], args := [d1, d2] }
  | _ => none }
def treeTwoRow : OpenClaim := { program := "ytibgfmkgojeefaa", sum := "11b62a9eb5e4d82941852c34999154af193deb88ba8a7b420e87ced81eacbb44", func := "tattler/tattlerlaw14.TreeTwo", spec := "treeTwo", unfollowed := true, recurses := true, apart := false }
def TreeTwoSaid : Prop := treeTwoRow.holds Try.pinned (OpenSpec.ofChange treeTwoSpec)

/-- ITS FALSE NEIGHBOUR: 'it returns false'. Refute it at one input. -/
def treeTwoWrong : ChangeSpec := { name := "treeTwo", fn := fun _ => fun
  | [d1, d2] => { results := [.lit (.bool false)], args := [d1, d2] }
  | _ => none }
def TreeTwoWrongFalsely : Prop := treeTwoRow.holds Try.pinned (OpenSpec.ofChange treeTwoWrong)

/-- 'tattlerlaw14.TreeOf': WHATEVER THE INPUT: true; the input reads as it did. -/
def treeOfSpec : ChangeSpec := { name := "treeOf", fn := fun _ => fun
  | [d] => { results := [.lit (.bool true)], args := [d] }
  | _ => none }
def treeOfRow : OpenClaim := { program := "ytibgfmkgojeefaa", sum := "11b62a9eb5e4d82941852c34999154af193deb88ba8a7b420e87ced81eacbb44", func := "tattler/tattlerlaw14.TreeOf", spec := "treeOf", unfollowed := true, recurses := true, apart := false }
def TreeOfSaid : Prop := treeOfRow.holds Try.pinned (OpenSpec.ofChange treeOfSpec)

/-- ITS FALSE NEIGHBOUR: 'it returns false'. Refute it at one input. -/
def treeOfWrong : ChangeSpec := { name := "treeOf", fn := fun _ => fun
  | [d] => { results := [.lit (.bool false)], args := [d] }
  | _ => none }
def TreeOfWrongFalsely : Prop := treeOfRow.holds Try.pinned (OpenSpec.ofChange treeOfWrong)

/-- 'tattlerlaw14.TreeTwice': WHATEVER THE INPUT: true; the input reads as it did. -/
def treeTwiceSpec : ChangeSpec := { name := "treeTwice", fn := fun _ => fun
  | [d1, d2] => { results := [.lit (.bool true)], args := [d1, d2] }
  | _ => none }
def treeTwiceRow : OpenClaim := { program := "ytibgfmkgojeefaa", sum := "11b62a9eb5e4d82941852c34999154af193deb88ba8a7b420e87ced81eacbb44", func := "tattler/tattlerlaw14.TreeTwice", spec := "treeTwice", unfollowed := true, recurses := true, apart := false }
def TreeTwiceSaid : Prop := treeTwiceRow.holds Try.pinned (OpenSpec.ofChange treeTwiceSpec)

/-- ITS FALSE NEIGHBOUR: 'it returns false'. Refute it at one input. -/
def treeTwiceWrong : ChangeSpec := { name := "treeTwice", fn := fun _ => fun
  | [d1, d2] => { results := [.lit (.bool false)], args := [d1, d2] }
  | _ => none }
def TreeTwiceWrongFalsely : Prop := treeTwiceRow.holds Try.pinned (OpenSpec.ofChange treeTwiceWrong)

/- THE SECOND FORM. 'bulk': how many values and letters a reading holds, each counted each time it is reached (what is shared counts as often as it is met; a slice's spare places count too). A statement '..UptoSaid' is the law's where the arguments, and the package variables that the reading takes, are together of bulk at most 1048576: NARROWER than '..Said'. Prove '..Said' where nothing that the law and all that it calls make is longer than what came in: it says more and counts as full. Else prove '..UptoSaid'. A law counts once. -/
mutual
def uptoBulk {H : Type} : DataW H → Nat
  | .lit (.string bytes) => bytes.length + 1
  | .lit _ => 1
  | .nil => 1
  | .ptr d => uptoBulk d + 1
  | .slice elems spare => uptoBulkAll elems + uptoBulkAll spare + 1
  | .agg parts => uptoBulkAll parts + 1
  | .iface _ d => uptoBulk d + 1
  | .map entries => uptoBulkEntries entries + 1
  | .held _ => 1
def uptoBulkAll {H : Type} : List (DataW H) → Nat
  | [] => 0
  | d :: r => uptoBulk d + uptoBulkAll r
def uptoBulkEntries {H : Type} : List (Lit × DataW H) → Nat
  | [] => 0
  | x :: r => uptoBulkEntry x + uptoBulkEntries r
def uptoBulkEntry {H : Type} : Lit × DataW H → Nat
  | (.string bytes, d) => bytes.length + uptoBulk d + 1
  | (_, d) => uptoBulk d + 1
 end
def uptoSmall : (H : Type) → List (DataW H) → Bool := fun _ ds => decide (uptoBulkAll ds ≤ 1048576)
def OpenSpec.upto (s : _root_.Go.ChangeSpec) : _root_.Go.OpenSpec := { _root_.Go.OpenSpec.ofChange s with cond := some uptoSmall }

/-- 'tattlerlaw14.TreeDown', WHERE WHAT IT READS IS OF BULK AT MOST 1048576: true; the input reads as it did. -/
def treeDownUptoRow : OpenClaim := { program := "ytibgfmkgojeefaa", sum := "11b62a9eb5e4d82941852c34999154af193deb88ba8a7b420e87ced81eacbb44", func := "tattler/tattlerlaw14.TreeDown", spec := "treeDown", unfollowed := true, recurses := true, apart := false, narrowed := true }
def TreeDownUptoSaid : Prop := treeDownUptoRow.holds Try.pinned (OpenSpec.upto treeDownSpec)

/-- 'tattlerlaw14.TreeWalks', WHERE WHAT IT READS IS OF BULK AT MOST 1048576: true; the input reads as it did. -/
def treeWalksUptoRow : OpenClaim := { program := "ytibgfmkgojeefaa", sum := "11b62a9eb5e4d82941852c34999154af193deb88ba8a7b420e87ced81eacbb44", func := "tattler/tattlerlaw14.TreeWalks", spec := "treeWalks", unfollowed := true, recurses := true, apart := false, narrowed := true }
def TreeWalksUptoSaid : Prop := treeWalksUptoRow.holds Try.pinned (OpenSpec.upto treeWalksSpec)

/-- 'tattlerlaw14.TreePlays', WHERE WHAT IT READS IS OF BULK AT MOST 1048576: true; the input reads as it did. -/
def treePlaysUptoRow : OpenClaim := { program := "ytibgfmkgojeefaa", sum := "11b62a9eb5e4d82941852c34999154af193deb88ba8a7b420e87ced81eacbb44", func := "tattler/tattlerlaw14.TreePlays", spec := "treePlays", unfollowed := true, recurses := true, apart := false, narrowed := true }
def TreePlaysUptoSaid : Prop := treePlaysUptoRow.holds Try.pinned (OpenSpec.upto treePlaysSpec)

/-- 'tattlerlaw14.TreeTwo', WHERE WHAT IT READS IS OF BULK AT MOST 1048576: true; the input reads as it did. -/
def treeTwoUptoRow : OpenClaim := { program := "ytibgfmkgojeefaa", sum := "11b62a9eb5e4d82941852c34999154af193deb88ba8a7b420e87ced81eacbb44", func := "tattler/tattlerlaw14.TreeTwo", spec := "treeTwo", unfollowed := true, recurses := true, apart := false, narrowed := true }
def TreeTwoUptoSaid : Prop := treeTwoUptoRow.holds Try.pinned (OpenSpec.upto treeTwoSpec)

/-- 'tattlerlaw14.TreeOf', WHERE WHAT IT READS IS OF BULK AT MOST 1048576: true; the input reads as it did. -/
def treeOfUptoRow : OpenClaim := { program := "ytibgfmkgojeefaa", sum := "11b62a9eb5e4d82941852c34999154af193deb88ba8a7b420e87ced81eacbb44", func := "tattler/tattlerlaw14.TreeOf", spec := "treeOf", unfollowed := true, recurses := true, apart := false, narrowed := true }
def TreeOfUptoSaid : Prop := treeOfUptoRow.holds Try.pinned (OpenSpec.upto treeOfSpec)

/-- 'tattlerlaw14.TreeTwice', WHERE WHAT IT READS IS OF BULK AT MOST 1048576: true; the input reads as it did. -/
def treeTwiceUptoRow : OpenClaim := { program := "ytibgfmkgojeefaa", sum := "11b62a9eb5e4d82941852c34999154af193deb88ba8a7b420e87ced81eacbb44", func := "tattler/tattlerlaw14.TreeTwice", spec := "treeTwice", unfollowed := true, recurses := true, apart := false, narrowed := true }
def TreeTwiceUptoSaid : Prop := treeTwiceUptoRow.holds Try.pinned (OpenSpec.upto treeTwiceSpec)

end Rows
end Go.Proofs.Ytibgfmkgojeefaa
