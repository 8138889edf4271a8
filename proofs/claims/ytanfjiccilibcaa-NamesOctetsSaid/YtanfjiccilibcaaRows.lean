/-
  No cell of these rows narrows 'for every input' (looked for: loops, veiled, ifaces, maps, wideKeys, modest, calm, conditions, laid).
  DERIVED. THE GIVEN ROWS OF THIS SEAT. 4 by the template 'for every input the law returns true; each argument reads behind the call as it read before'; 0 by the template 'total and deterministic' (their statements: YtanfjiccilibcaaTotals.lean).
  GIVEN WITH THE SEED: the statements are not yours to turn. If you find one false, say at which input.
  Laid BY PROGRAM, IN A SANDBOX (cutbox-rows.mjs): the forced cells as the released guide's own fill.sh prints them over the translation 687ee53e3b26dc05… (all of the seat's roots in one cut). By AI agents, Wed Nov 11 2026. No macro, syntax, notation, axiom, sorry.
-/
import Derived.Test.YtanfjiccilibcaaChecked
import GoSem.Claim
import GoSem.ClaimJoined
import GoSem.ClaimMapViews
import Derived.JoinedTies
import Derived.KernelRfl
namespace Go.Proofs.Ytanfjiccilibcaa
/- THE CELL 'sum', in the pinned program and in every row, IS THE sha256 OF THE DUMP (.gsa) THAT YtanfjiccilibcaaProg.lean LOADS. Nothing in Lean hashes anything: it is a label: what it is worth is what the hold of that sum in a sandbox is worth. -/
noncomputable def Try.pinned : Pinned := { name := "ytanfjiccilibcaa", sum := "687ee53e3b26dc05a01cd5a0ccdf91305c7a4dc1c21dec40b6ec780380f880ae", checked := Try.checked }
namespace Rows
def none {H : Type} : Left H := { results := [], args := [] }

/-- 'mothballlaw13.NamesFull': WHATEVER THE INPUT: true; the input reads as it did. -/
def namesFullSpec : ChangeSpec := { name := "namesFull", fn := fun _ => fun
  | [d] => { results := [.lit (.bool true)], args := [d] }
  | _ => none }
def namesFullRow : OpenClaim := { program := "ytanfjiccilibcaa", sum := "687ee53e3b26dc05a01cd5a0ccdf91305c7a4dc1c21dec40b6ec780380f880ae", func := "mothball/mothballlaw13.NamesFull", spec := "namesFull", inPlace := ["slices.overlaps[mothball/api.Named]"], unfollowed := true, recurses := true, apart := false }
def NamesFullSaid : Prop := namesFullRow.holds Try.pinned (OpenSpec.ofChange namesFullSpec)

/-- ITS FALSE NEIGHBOUR: 'it returns false'. Refute it at one input. -/
def namesFullWrong : ChangeSpec := { name := "namesFull", fn := fun _ => fun
  | [d] => { results := [.lit (.bool false)], args := [d] }
  | _ => none }
def NamesFullWrongFalsely : Prop := namesFullRow.holds Try.pinned (OpenSpec.ofChange namesFullWrong)

/-- 'mothballlaw13.NamesTurns': WHATEVER THE INPUT: true; the input reads as it did. -/
def namesTurnsSpec : ChangeSpec := { name := "namesTurns", fn := fun _ => fun
  | [d1, d2, d3] => { results := [.lit (.bool true)], args := [d1, d2, d3] }
  | _ => none }
def namesTurnsRow : OpenClaim := { program := "ytanfjiccilibcaa", sum := "687ee53e3b26dc05a01cd5a0ccdf91305c7a4dc1c21dec40b6ec780380f880ae", func := "mothball/mothballlaw13.NamesTurns", spec := "namesTurns", inPlace := ["slices.overlaps[mothball/api.Named]"], unfollowed := true, recurses := true, apart := false }
def NamesTurnsSaid : Prop := namesTurnsRow.holds Try.pinned (OpenSpec.ofChange namesTurnsSpec)

/-- ITS FALSE NEIGHBOUR: 'it returns false'. Refute it at one input. -/
def namesTurnsWrong : ChangeSpec := { name := "namesTurns", fn := fun _ => fun
  | [d1, d2, d3] => { results := [.lit (.bool false)], args := [d1, d2, d3] }
  | _ => none }
def NamesTurnsWrongFalsely : Prop := namesTurnsRow.holds Try.pinned (OpenSpec.ofChange namesTurnsWrong)

/-- 'mothballlaw13.NamesAgain': WHATEVER THE INPUT: true; the input reads as it did. -/
def namesAgainSpec : ChangeSpec := { name := "namesAgain", fn := fun _ => fun
  | [d1, d2] => { results := [.lit (.bool true)], args := [d1, d2] }
  | _ => none }
def namesAgainRow : OpenClaim := { program := "ytanfjiccilibcaa", sum := "687ee53e3b26dc05a01cd5a0ccdf91305c7a4dc1c21dec40b6ec780380f880ae", func := "mothball/mothballlaw13.NamesAgain", spec := "namesAgain", inPlace := ["slices.overlaps[mothball/api.Named]"], unfollowed := true, recurses := true, apart := false }
def NamesAgainSaid : Prop := namesAgainRow.holds Try.pinned (OpenSpec.ofChange namesAgainSpec)

/-- ITS FALSE NEIGHBOUR: 'it returns false'. Refute it at one input. -/
def namesAgainWrong : ChangeSpec := { name := "namesAgain", fn := fun _ => fun
  | [d1, d2] => { results := [.lit (.bool false)], args := [d1, d2] }
  | _ => none }
def NamesAgainWrongFalsely : Prop := namesAgainRow.holds Try.pinned (OpenSpec.ofChange namesAgainWrong)

/-- 'mothballlaw13.NamesOctets': WHATEVER THE INPUT: true; the input reads as it did. -/
def namesOctetsSpec : ChangeSpec := { name := "namesOctets", fn := fun _ => fun
  | [d1, d2, d3] => { results := [.lit (.bool true)], args := [d1, d2, d3] }
  | _ => none }
def namesOctetsRow : OpenClaim := { program := "ytanfjiccilibcaa", sum := "687ee53e3b26dc05a01cd5a0ccdf91305c7a4dc1c21dec40b6ec780380f880ae", func := "mothball/mothballlaw13.NamesOctets", spec := "namesOctets", inPlace := ["slices.overlaps[mothball/api.Named]"], unfollowed := true, recurses := true, apart := false }
def NamesOctetsSaid : Prop := namesOctetsRow.holds Try.pinned (OpenSpec.ofChange namesOctetsSpec)

/-- ITS FALSE NEIGHBOUR: 'it returns false'. Refute it at one input. -/
def namesOctetsWrong : ChangeSpec := { name := "namesOctets", fn := fun _ => fun
  | [d1, d2, d3] => { results := [.lit (.bool false)], args := [d1, d2, d3] }
  | _ => none }
def NamesOctetsWrongFalsely : Prop := namesOctetsRow.holds Try.pinned (OpenSpec.ofChange namesOctetsWrong)

/- THE SECOND FORM. 'bulk': how many values and letters a reading holds, each counted each time it is reached (what is shared counts as often as it is met; a slice's spare places count too). A statement '..UptoSaid' is the law's where the arguments, and the package variables that the reading takes, are together of bulk at most 1048576: NARROWER than '..Said'. Prove '..Said' where nothing that the law and all that it calls make is longer than what came in: it says more and counts as full. Else prove '..UptoSaid'. A law counts once. -/
mutual
def uptoBulk {H : Type} : DataW H → Nat
  | .lit (.string bytes) => bytes.length + 1
  | .lit _ => 1
  | .nil => 1
  | .ptr d => uptoBulk d + 1
  | .slice elems spare => uptoBulkAll elems + uptoBulkAll spare + 1
  | .agg parts => uptoBulkAll parts + 1
  | .iface _ d => uptoBulk d + 1
  | .map entries => uptoBulkEntries entries + 1
  | .held _ => 1
def uptoBulkAll {H : Type} : List (DataW H) → Nat
  | [] => 0
  | d :: r => uptoBulk d + uptoBulkAll r
def uptoBulkEntries {H : Type} : List (Lit × DataW H) → Nat
  | [] => 0
  | x :: r => uptoBulkEntry x + uptoBulkEntries r
def uptoBulkEntry {H : Type} : Lit × DataW H → Nat
  | (.string bytes, d) => bytes.length + uptoBulk d + 1
  | (_, d) => uptoBulk d + 1
 end
def uptoSmall : (H : Type) → List (DataW H) → Bool := fun _ ds => decide (uptoBulkAll ds ≤ 1048576)
def OpenSpec.upto (s : _root_.Go.ChangeSpec) : _root_.Go.OpenSpec := { _root_.Go.OpenSpec.ofChange s with cond := some uptoSmall }

/-- 'mothballlaw13.NamesFull', WHERE WHAT IT READS IS OF BULK AT MOST 1048576: true; the input reads as it did. -/
def namesFullUptoRow : OpenClaim := { program := "ytanfjiccilibcaa", sum := "687ee53e3b26dc05a01cd5a0ccdf91305c7a4dc1c21dec40b6ec780380f880ae", func := "mothball/mothballlaw13.NamesFull", spec := "namesFull", inPlace := ["slices.overlaps[mothball/api.Named]"], unfollowed := true, recurses := true, apart := false, narrowed := true }
def NamesFullUptoSaid : Prop := namesFullUptoRow.holds Try.pinned (OpenSpec.upto namesFullSpec)

/-- 'mothballlaw13.NamesTurns', WHERE WHAT IT READS IS OF BULK AT MOST 1048576: true; the input reads as it did. -/
def namesTurnsUptoRow : OpenClaim := { program := "ytanfjiccilibcaa", sum := "687ee53e3b26dc05a01cd5a0ccdf91305c7a4dc1c21dec40b6ec780380f880ae", func := "mothball/mothballlaw13.NamesTurns", spec := "namesTurns", inPlace := ["slices.overlaps[mothball/api.Named]"], unfollowed := true, recurses := true, apart := false, narrowed := true }
def NamesTurnsUptoSaid : Prop := namesTurnsUptoRow.holds Try.pinned (OpenSpec.upto namesTurnsSpec)

/-- 'mothballlaw13.NamesAgain', WHERE WHAT IT READS IS OF BULK AT MOST 1048576: true; the input reads as it did. -/
def namesAgainUptoRow : OpenClaim := { program := "ytanfjiccilibcaa", sum := "687ee53e3b26dc05a01cd5a0ccdf91305c7a4dc1c21dec40b6ec780380f880ae", func := "mothball/mothballlaw13.NamesAgain", spec := "namesAgain", inPlace := ["slices.overlaps[mothball/api.Named]"], unfollowed := true, recurses := true, apart := false, narrowed := true }
def NamesAgainUptoSaid : Prop := namesAgainUptoRow.holds Try.pinned (OpenSpec.upto namesAgainSpec)

/-- 'mothballlaw13.NamesOctets', WHERE WHAT IT READS IS OF BULK AT MOST 1048576: true; the input reads as it did. -/
def namesOctetsUptoRow : OpenClaim := { program := "ytanfjiccilibcaa", sum := "687ee53e3b26dc05a01cd5a0ccdf91305c7a4dc1c21dec40b6ec780380f880ae", func := "mothball/mothballlaw13.NamesOctets", spec := "namesOctets", inPlace := ["slices.overlaps[mothball/api.Named]"], unfollowed := true, recurses := true, apart := false, narrowed := true }
def NamesOctetsUptoSaid : Prop := namesOctetsUptoRow.holds Try.pinned (OpenSpec.upto namesOctetsSpec)

end Rows
end Go.Proofs.Ytanfjiccilibcaa
