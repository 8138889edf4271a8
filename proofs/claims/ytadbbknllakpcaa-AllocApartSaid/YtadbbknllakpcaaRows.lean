/-
  No cell of these rows narrows 'for every input' (looked for: loops, veiled, ifaces, maps, wideKeys, modest, calm, conditions, laid).
  DERIVED. THE GIVEN ROWS OF THIS SEAT. 4 by the template 'for every input the law returns true; each argument reads behind the call as it read before'; 0 by the template 'total and deterministic' (their statements: YtadbbknllakpcaaTotals.lean).
  GIVEN WITH THE SEED: the statements are not yours to turn. If you find one false, say at which input.
  Laid BY PROGRAM, IN A SANDBOX (cutbox-rows.mjs): the forced cells as the released guide's own fill.sh prints them over the translation 6bd8c3f2c7a05ac3… (all of the seat's roots in one cut). By AI agents, Wed Nov 11 2026. No macro, syntax, notation, axiom, sorry.
-/
import Derived.Test.YtadbbknllakpcaaChecked
import GoSem.Claim
import GoSem.ClaimJoined
import GoSem.ClaimMapViews
import Derived.JoinedTies
import Derived.KernelRfl
namespace Go.Proofs.Ytadbbknllakpcaa
/- THE CELL 'sum', in the pinned program and in every row, IS THE sha256 OF THE DUMP (.gsa) THAT YtadbbknllakpcaaProg.lean LOADS. Nothing in Lean hashes anything: it is a label: what it is worth is what the hold of that sum in a sandbox is worth. -/
noncomputable def Try.pinned : Pinned := { name := "ytadbbknllakpcaa", sum := "6bd8c3f2c7a05ac345e3c34255771954392929a04911eefb78c0d03b1da89bb0", checked := Try.checked }
namespace Rows
def none {H : Type} : Left H := { results := [], args := [] }

/-- 'mothballlaw17.AllocAgain': WHATEVER THE INPUT: true; the input reads as it did. -/
def allocAgainSpec : ChangeSpec := { name := "allocAgain", fn := fun _ => fun
  | [d1, d2, d3] => { results := [.lit (.bool true)], args := [d1, d2, d3] }
  | _ => none }
def allocAgainRow : OpenClaim := { program := "ytadbbknllakpcaa", sum := "6bd8c3f2c7a05ac345e3c34255771954392929a04911eefb78c0d03b1da89bb0", func := "mothball/mothballlaw17.AllocAgain", spec := "allocAgain", inPlace := ["slices.overlaps[mothball/api.Row]", "slices.overlaps[int]"], unfollowed := true, recurses := true, apart := false }
def AllocAgainSaid : Prop := allocAgainRow.holds Try.pinned (OpenSpec.ofChange allocAgainSpec)

/-- ITS FALSE NEIGHBOUR: 'it returns false'. Refute it at one input. -/
def allocAgainWrong : ChangeSpec := { name := "allocAgain", fn := fun _ => fun
  | [d1, d2, d3] => { results := [.lit (.bool false)], args := [d1, d2, d3] }
  | _ => none }
def AllocAgainWrongFalsely : Prop := allocAgainRow.holds Try.pinned (OpenSpec.ofChange allocAgainWrong)

/-- 'mothballlaw17.AllocAgainThere': WHATEVER THE INPUT: true; the input reads as it did. -/
def allocAgainThereSpec : ChangeSpec := { name := "allocAgainThere", fn := fun _ => fun
  | [d1, d2, d3] => { results := [.lit (.bool true)], args := [d1, d2, d3] }
  | _ => none }
def allocAgainThereRow : OpenClaim := { program := "ytadbbknllakpcaa", sum := "6bd8c3f2c7a05ac345e3c34255771954392929a04911eefb78c0d03b1da89bb0", func := "mothball/mothballlaw17.AllocAgainThere", spec := "allocAgainThere", inPlace := ["slices.overlaps[mothball/api.Row]", "slices.overlaps[int]"], unfollowed := true, recurses := true, apart := false }
def AllocAgainThereSaid : Prop := allocAgainThereRow.holds Try.pinned (OpenSpec.ofChange allocAgainThereSpec)

/-- ITS FALSE NEIGHBOUR: 'it returns false'. Refute it at one input. -/
def allocAgainThereWrong : ChangeSpec := { name := "allocAgainThere", fn := fun _ => fun
  | [d1, d2, d3] => { results := [.lit (.bool false)], args := [d1, d2, d3] }
  | _ => none }
def AllocAgainThereWrongFalsely : Prop := allocAgainThereRow.holds Try.pinned (OpenSpec.ofChange allocAgainThereWrong)

/-- 'mothballlaw17.AllocUndone': WHATEVER THE INPUT: true; the input reads as it did. -/
def allocUndoneSpec : ChangeSpec := { name := "allocUndone", fn := fun _ => fun
  | [d1, d2] => { results := [.lit (.bool true)], args := [d1, d2] }
  | _ => none }
def allocUndoneRow : OpenClaim := { program := "ytadbbknllakpcaa", sum := "6bd8c3f2c7a05ac345e3c34255771954392929a04911eefb78c0d03b1da89bb0", func := "mothball/mothballlaw17.AllocUndone", spec := "allocUndone", inPlace := ["slices.overlaps[mothball/api.Row]", "slices.overlaps[int]"], unfollowed := true, recurses := true, apart := false }
def AllocUndoneSaid : Prop := allocUndoneRow.holds Try.pinned (OpenSpec.ofChange allocUndoneSpec)

/-- ITS FALSE NEIGHBOUR: 'it returns false'. Refute it at one input. -/
def allocUndoneWrong : ChangeSpec := { name := "allocUndone", fn := fun _ => fun
  | [d1, d2] => { results := [.lit (.bool false)], args := [d1, d2] }
  | _ => none }
def AllocUndoneWrongFalsely : Prop := allocUndoneRow.holds Try.pinned (OpenSpec.ofChange allocUndoneWrong)

/-- 'mothballlaw17.AllocApart': WHATEVER THE INPUT: true; the input reads as it did. -/
def allocApartSpec : ChangeSpec := { name := "allocApart", fn := fun _ => fun
  | [d1, d2] => { results := [.lit (.bool true)], args := [d1, d2] }
  | _ => none }
def allocApartRow : OpenClaim := { program := "ytadbbknllakpcaa", sum := "6bd8c3f2c7a05ac345e3c34255771954392929a04911eefb78c0d03b1da89bb0", func := "mothball/mothballlaw17.AllocApart", spec := "allocApart", inPlace := ["slices.overlaps[mothball/api.Row]", "slices.overlaps[int]"], unfollowed := true, recurses := true, apart := false }
def AllocApartSaid : Prop := allocApartRow.holds Try.pinned (OpenSpec.ofChange allocApartSpec)

/-- ITS FALSE NEIGHBOUR: 'it returns false'. Refute it at one input. -/
def allocApartWrong : ChangeSpec := { name := "allocApart", fn := fun _ => fun
  | [d1, d2] => { results := [.lit (.bool false)], args := [d1, d2] }
  | _ => none }
def AllocApartWrongFalsely : Prop := allocApartRow.holds Try.pinned (OpenSpec.ofChange allocApartWrong)

/- THE SECOND FORM. 'bulk': how many values and letters a reading holds, each counted each time it is reached (what is shared counts as often as it is met; a slice's spare places count too). A statement '..UptoSaid' is the law's where the arguments, and the package variables that the reading takes, are together of bulk at most 1048576: NARROWER than '..Said'. Prove '..Said' where nothing that the law and all that it calls make is longer than what came in: it says more and counts as full. Else prove '..UptoSaid'. A law counts once. -/
mutual
def uptoBulk {H : Type} : DataW H → Nat
  | .lit (.string bytes) => bytes.length + 1
  | .lit _ => 1
  | .nil => 1
  | .ptr d => uptoBulk d + 1
  | .slice elems spare => uptoBulkAll elems + uptoBulkAll spare + 1
  | .agg parts => uptoBulkAll parts + 1
  | .iface _ d => uptoBulk d + 1
  | .map entries => uptoBulkEntries entries + 1
  | .held _ => 1
def uptoBulkAll {H : Type} : List (DataW H) → Nat
  | [] => 0
  | d :: r => uptoBulk d + uptoBulkAll r
def uptoBulkEntries {H : Type} : List (Lit × DataW H) → Nat
  | [] => 0
  | x :: r => uptoBulkEntry x + uptoBulkEntries r
def uptoBulkEntry {H : Type} : Lit × DataW H → Nat
  | (.string bytes, d) => bytes.length + uptoBulk d + 1
  | (_, d) => uptoBulk d + 1
 end
def uptoSmall : (H : Type) → List (DataW H) → Bool := fun _ ds => decide (uptoBulkAll ds ≤ 1048576)
def OpenSpec.upto (s : _root_.Go.ChangeSpec) : _root_.Go.OpenSpec := { _root_.Go.OpenSpec.ofChange s with cond := some uptoSmall }

/-- 'mothballlaw17.AllocAgain', WHERE WHAT IT READS IS OF BULK AT MOST 1048576: true; the input reads as it did. -/
def allocAgainUptoRow : OpenClaim := { program := "ytadbbknllakpcaa", sum := "6bd8c3f2c7a05ac345e3c34255771954392929a04911eefb78c0d03b1da89bb0", func := "mothball/mothballlaw17.AllocAgain", spec := "allocAgain", inPlace := ["slices.overlaps[mothball/api.Row]", "slices.overlaps[int]"], unfollowed := true, recurses := true, apart := false, narrowed := true }
def AllocAgainUptoSaid : Prop := allocAgainUptoRow.holds Try.pinned (OpenSpec.upto allocAgainSpec)

/-- 'mothballlaw17.AllocAgainThere', WHERE WHAT IT READS IS OF BULK AT MOST 1048576: true; the input reads as it did. -/
def allocAgainThereUptoRow : OpenClaim := { program := "ytadbbknllakpcaa", sum := "6bd8c3f2c7a05ac345e3c34255771954392929a04911eefb78c0d03b1da89bb0", func := "mothball/mothballlaw17.AllocAgainThere", spec := "allocAgainThere", inPlace := ["slices.overlaps[mothball/api.Row]", "slices.overlaps[int]"], unfollowed := true, recurses := true, apart := false, narrowed := true }
def AllocAgainThereUptoSaid : Prop := allocAgainThereUptoRow.holds Try.pinned (OpenSpec.upto allocAgainThereSpec)

/-- 'mothballlaw17.AllocUndone', WHERE WHAT IT READS IS OF BULK AT MOST 1048576: true; the input reads as it did. -/
def allocUndoneUptoRow : OpenClaim := { program := "ytadbbknllakpcaa", sum := "6bd8c3f2c7a05ac345e3c34255771954392929a04911eefb78c0d03b1da89bb0", func := "mothball/mothballlaw17.AllocUndone", spec := "allocUndone", inPlace := ["slices.overlaps[mothball/api.Row]", "slices.overlaps[int]"], unfollowed := true, recurses := true, apart := false, narrowed := true }
def AllocUndoneUptoSaid : Prop := allocUndoneUptoRow.holds Try.pinned (OpenSpec.upto allocUndoneSpec)

/-- 'mothballlaw17.AllocApart', WHERE WHAT IT READS IS OF BULK AT MOST 1048576: true; the input reads as it did. -/
def allocApartUptoRow : OpenClaim := { program := "ytadbbknllakpcaa", sum := "6bd8c3f2c7a05ac345e3c34255771954392929a04911eefb78c0d03b1da89bb0", func := "mothball/mothballlaw17.AllocApart", spec := "allocApart", inPlace := ["slices.overlaps[mothball/api.Row]", "slices.overlaps[int]"], unfollowed := true, recurses := true, apart := false, narrowed := true }
def AllocApartUptoSaid : Prop := allocApartUptoRow.holds Try.pinned (OpenSpec.upto allocApartSpec)

end Rows
end Go.Proofs.Ytadbbknllakpcaa
