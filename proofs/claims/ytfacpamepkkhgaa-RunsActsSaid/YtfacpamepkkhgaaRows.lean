/-
  No cell of these rows narrows 'for every input' (looked for: loops, veiled, ifaces, maps, wideKeys, modest, calm, conditions, laid).
  DERIVED. THE GIVEN ROWS OF THIS SEAT. 4 by the template 'for every input the law returns true; each argument reads behind the call as it read before'; 0 by the template 'total and deterministic' (their statements: YtfacpamepkkhgaaTotals.lean).
  GIVEN WITH THE SEED: the statements are not yours to turn. If you find one false, say at which input.
  Laid BY PROGRAM, IN A SANDBOX (cutbox-rows.mjs): the forced cells as the released guide's own fill.sh prints them over the translation c90f7cc3276af401… (all of the seat's roots in one cut). By AI agents, Wed Nov 11 2026. No macro, syntax, notation, axiom, sorry.
-/
import Derived.Test.YtfacpamepkkhgaaChecked
import GoSem.Claim
import GoSem.ClaimJoined
import GoSem.ClaimMapViews
import Derived.JoinedTies
import Derived.KernelRfl
namespace Go.Proofs.Ytfacpamepkkhgaa
/- THE CELL 'sum', in the pinned program and in every row, IS THE sha256 OF THE DUMP (.gsa) THAT YtfacpamepkkhgaaProg.lean LOADS. Nothing in Lean hashes anything: it is a label: what it is worth is what the hold of that sum in a sandbox is worth. -/
noncomputable def Try.pinned : Pinned := { name := "ytfacpamepkkhgaa", sum := "c90f7cc3276af401e64efe0994eae6be44c876ad3517e8ff9ed755352ecd79c5", checked := Try.checked }
namespace Rows
def none {H : Type} : Left H := { results := [], args := [] }

/-- 'mothballlaw16.RunsBest': WHATEVER THE INPUT: true; the input reads as it did. -/
def runsBestSpec : ChangeSpec := { name := "runsBest", fn := fun _ => fun
  | [d1, d2] => { results := [.lit (.bool true)], args := [d1, d2] }
  | _ => none }
def runsBestRow : OpenClaim := { program := "ytfacpamepkkhgaa", sum := "c90f7cc3276af401e64efe0994eae6be44c876ad3517e8ff9ed755352ecd79c5", func := "mothball/mothballlaw16.RunsBest", spec := "runsBest", inPlace := ["slices.overlaps[mothball/api.Row]"], unfollowed := true, recurses := true, apart := false }
def RunsBestSaid : Prop := runsBestRow.holds Try.pinned (OpenSpec.ofChange runsBestSpec)

/-- ITS FALSE NEIGHBOUR: 'it returns false'. Refute it at one input. -/
def runsBestWrong : ChangeSpec := { name := "runsBest", fn := fun _ => fun
  | [d1, d2] => { results := [.lit (.bool false)], args := [d1, d2] }
  | _ => none }
def RunsBestWrongFalsely : Prop := runsBestRow.holds Try.pinned (OpenSpec.ofChange runsBestWrong)

/-- 'mothballlaw16.RunsApart': WHATEVER THE INPUT: true; the input reads as it did. -/
def runsApartSpec : ChangeSpec := { name := "runsApart", fn := fun _ => fun
  | [d1, d2] => { results := [.lit (.bool true)], args := [d1, d2] }
  | _ => none }
def runsApartRow : OpenClaim := { program := "ytfacpamepkkhgaa", sum := "c90f7cc3276af401e64efe0994eae6be44c876ad3517e8ff9ed755352ecd79c5", func := "mothball/mothballlaw16.RunsApart", spec := "runsApart", inPlace := ["slices.overlaps[mothball/api.Row]"], unfollowed := true, recurses := true, apart := false }
def RunsApartSaid : Prop := runsApartRow.holds Try.pinned (OpenSpec.ofChange runsApartSpec)

/-- ITS FALSE NEIGHBOUR: 'it returns false'. Refute it at one input. -/
def runsApartWrong : ChangeSpec := { name := "runsApart", fn := fun _ => fun
  | [d1, d2] => { results := [.lit (.bool false)], args := [d1, d2] }
  | _ => none }
def RunsApartWrongFalsely : Prop := runsApartRow.holds Try.pinned (OpenSpec.ofChange runsApartWrong)

/-- 'mothballlaw16.RunsClaims': WHATEVER THE INPUT: true; the input reads as it did. -/
def runsClaimsSpec : ChangeSpec := { name := "runsClaims", fn := fun _ => fun
  | [d1, d2, d3] => { results := [.lit (.bool true)], args := [d1, d2, d3] }
  | _ => none }
def runsClaimsRow : OpenClaim := { program := "ytfacpamepkkhgaa", sum := "c90f7cc3276af401e64efe0994eae6be44c876ad3517e8ff9ed755352ecd79c5", func := "mothball/mothballlaw16.RunsClaims", spec := "runsClaims", inPlace := ["slices.overlaps[mothball/api.Row]"], unfollowed := true, recurses := true, apart := false }
def RunsClaimsSaid : Prop := runsClaimsRow.holds Try.pinned (OpenSpec.ofChange runsClaimsSpec)

/-- ITS FALSE NEIGHBOUR: 'it returns false'. Refute it at one input. -/
def runsClaimsWrong : ChangeSpec := { name := "runsClaims", fn := fun _ => fun
  | [d1, d2, d3] => { results := [.lit (.bool false)], args := [d1, d2, d3] }
  | _ => none }
def RunsClaimsWrongFalsely : Prop := runsClaimsRow.holds Try.pinned (OpenSpec.ofChange runsClaimsWrong)

/-- 'mothballlaw16.RunsActs': WHATEVER THE INPUT: true; the input reads as it did. -/
def runsActsSpec : ChangeSpec := { name := "runsActs", fn := fun _ => fun
  | [d] => { results := [.lit (.bool true)], args := [d] }
  | _ => none }
def runsActsRow : OpenClaim := { program := "ytfacpamepkkhgaa", sum := "c90f7cc3276af401e64efe0994eae6be44c876ad3517e8ff9ed755352ecd79c5", func := "mothball/mothballlaw16.RunsActs", spec := "runsActs", inPlace := ["slices.overlaps[mothball/api.Row]"], unfollowed := true, recurses := true, apart := false }
def RunsActsSaid : Prop := runsActsRow.holds Try.pinned (OpenSpec.ofChange runsActsSpec)

/-- ITS FALSE NEIGHBOUR: 'it returns false'. Refute it at one input. -/
def runsActsWrong : ChangeSpec := { name := "runsActs", fn := fun _ => fun
  | [d] => { results := [.lit (.bool false)], args := [d] }
  | _ => none }
def RunsActsWrongFalsely : Prop := runsActsRow.holds Try.pinned (OpenSpec.ofChange runsActsWrong)

/- THE SECOND FORM. 'bulk': how many values and letters a reading holds, each counted each time it is reached (what is shared counts as often as it is met; a slice's spare places count too). A statement '..UptoSaid' is the law's where the arguments, and the package variables that the reading takes, are together of bulk at most 1048576: NARROWER than '..Said'. Prove '..Said' where nothing that the law and all that it calls make is longer than what came in: it says more and counts as full. Else prove '..UptoSaid'. A law counts once. -/
mutual
def uptoBulk {H : Type} : DataW H → Nat
  | .lit (.string bytes) => bytes.length + 1
  | .lit _ => 1
  | .nil => 1
  | .ptr d => uptoBulk d + 1
  | .slice elems spare => uptoBulkAll elems + uptoBulkAll spare + 1
  | .agg parts => uptoBulkAll parts + 1
  | .iface _ d => uptoBulk d + 1
  | .map entries => uptoBulkEntries entries + 1
  | .held _ => 1
def uptoBulkAll {H : Type} : List (DataW H) → Nat
  | [] => 0
  | d :: r => uptoBulk d + uptoBulkAll r
def uptoBulkEntries {H : Type} : List (Lit × DataW H) → Nat
  | [] => 0
  | x :: r => uptoBulkEntry x + uptoBulkEntries r
def uptoBulkEntry {H : Type} : Lit × DataW H → Nat
  | (.string bytes, d) => bytes.length + uptoBulk d + 1
  | (_, d) => uptoBulk d + 1
 end
def uptoSmall : (H : Type) → List (DataW H) → Bool := fun _ ds => decide (uptoBulkAll ds ≤ 1048576)
def OpenSpec.upto (s : _root_.Go.ChangeSpec) : _root_.Go.OpenSpec := { _root_.Go.OpenSpec.ofChange s with cond := some uptoSmall }

/-- 'mothballlaw16.RunsBest', WHERE WHAT IT READS IS OF BULK AT MOST 1048576: true; the input reads as it did. -/
def runsBestUptoRow : OpenClaim := { program := "ytfacpamepkkhgaa", sum := "c90f7cc3276af401e64efe0994eae6be44c876ad3517e8ff9ed755352ecd79c5", func := "mothball/mothballlaw16.RunsBest", spec := "runsBest", inPlace := ["slices.overlaps[mothball/api.Row]"], unfollowed := true, recurses := true, apart := false, narrowed := true }
def RunsBestUptoSaid : Prop := runsBestUptoRow.holds Try.pinned (OpenSpec.upto runsBestSpec)

/-- 'mothballlaw16.RunsApart', WHERE WHAT IT READS IS OF BULK AT MOST 1048576: true; the input reads as it did. -/
def runsApartUptoRow : OpenClaim := { program := "ytfacpamepkkhgaa", sum := "c90f7cc3276af401e64efe0994eae6be44c876ad3517e8ff9ed755352ecd79c5", func := "mothball/mothballlaw16.RunsApart", spec := "runsApart", inPlace := ["slices.overlaps[mothball/api.Row]"], unfollowed := true, recurses := true, apart := false, narrowed := true }
def RunsApartUptoSaid : Prop := runsApartUptoRow.holds Try.pinned (OpenSpec.upto runsApartSpec)

/-- 'mothballlaw16.RunsClaims', WHERE WHAT IT READS IS OF BULK AT MOST 1048576: true; the input reads as it did. -/
def runsClaimsUptoRow : OpenClaim := { program := "ytfacpamepkkhgaa", sum := "c90f7cc3276af401e64efe0994eae6be44c876ad3517e8ff9ed755352ecd79c5", func := "mothball/mothballlaw16.RunsClaims", spec := "runsClaims", inPlace := ["slices.overlaps[mothball/api.Row]"], unfollowed := true, recurses := true, apart := false, narrowed := true }
def RunsClaimsUptoSaid : Prop := runsClaimsUptoRow.holds Try.pinned (OpenSpec.upto runsClaimsSpec)

/-- 'mothballlaw16.RunsActs', WHERE WHAT IT READS IS OF BULK AT MOST 1048576: true; the input reads as it did. -/
def runsActsUptoRow : OpenClaim := { program := "ytfacpamepkkhgaa", sum := "c90f7cc3276af401e64efe0994eae6be44c876ad3517e8ff9ed755352ecd79c5", func := "mothball/mothballlaw16.RunsActs", spec := "runsActs", inPlace := ["slices.overlaps[mothball/api.Row]"], unfollowed := true, recurses := true, apart := false, narrowed := true }
def RunsActsUptoSaid : Prop := runsActsUptoRow.holds Try.pinned (OpenSpec.upto runsActsSpec)

end Rows
end Go.Proofs.Ytfacpamepkkhgaa
