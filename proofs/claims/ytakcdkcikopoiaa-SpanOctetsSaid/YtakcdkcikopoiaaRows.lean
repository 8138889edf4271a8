/-
  No cell of these rows narrows 'for every input' (looked for: loops, veiled, ifaces, maps, wideKeys, modest, calm, conditions, laid).
  DERIVED. THE GIVEN ROWS OF THIS SEAT. 4 by the template 'for every input the law returns true; each argument reads behind the call as it read before'; 0 by the template 'total and deterministic' (their statements: YtakcdkcikopoiaaTotals.lean).
  GIVEN WITH THE SEED: the statements are not yours to turn. If you find one false, say at which input.
  Laid BY PROGRAM, IN A SANDBOX (cutbox-rows.mjs): the forced cells as the released guide's own fill.sh prints them over the translation 49f46efbb51d0cb1… (all of the seat's roots in one cut). By AI agents, Wed Nov 11 2026. No macro, syntax, notation, axiom, sorry.
-/
import Derived.Test.YtakcdkcikopoiaaChecked
import GoSem.Claim
import GoSem.ClaimJoined
import GoSem.ClaimMapViews
import Derived.JoinedTies
import Derived.KernelRfl
namespace Go.Proofs.Ytakcdkcikopoiaa
/- THE CELL 'sum', in the pinned program and in every row, IS THE sha256 OF THE DUMP (.gsa) THAT YtakcdkcikopoiaaProg.lean LOADS. Nothing in Lean hashes anything: it is a label: what it is worth is what the hold of that sum in a sandbox is worth. -/
noncomputable def Try.pinned : Pinned := { name := "ytakcdkcikopoiaa", sum := "49f46efbb51d0cb1af22cc160f80ff1ec6cb07dc10a4dfffb83785675a030b91", checked := Try.checked }
namespace Rows
def none {H : Type} : Left H := { results := [], args := [] }

/-- 'mothballlaw15.SpanRights': WHATEVER THE INPUT: true; the input reads as it did. -/
def spanRightsSpec : ChangeSpec := { name := "spanRights", fn := fun _ => fun
  | [d1, d2, d3] => { results := [.lit (.bool true)], args := [d1, d2, d3] }
  | _ => none }
def spanRightsRow : OpenClaim := { program := "ytakcdkcikopoiaa", sum := "49f46efbb51d0cb1af22cc160f80ff1ec6cb07dc10a4dfffb83785675a030b91", func := "mothball/mothballlaw15.SpanRights", spec := "spanRights", apart := false }
def SpanRightsSaid : Prop := spanRightsRow.holds Try.pinned (OpenSpec.ofChange spanRightsSpec)

/-- ITS FALSE NEIGHBOUR: 'it returns false'. Refute it at one input. -/
def spanRightsWrong : ChangeSpec := { name := "spanRights", fn := fun _ => fun
  | [d1, d2, d3] => { results := [.lit (.bool false)], args := [d1, d2, d3] }
  | _ => none }
def SpanRightsWrongFalsely : Prop := spanRightsRow.holds Try.pinned (OpenSpec.ofChange spanRightsWrong)

/-- 'mothballlaw15.SpanTurns': WHATEVER THE INPUT: true; the input reads as it did. -/
def spanTurnsSpec : ChangeSpec := { name := "spanTurns", fn := fun _ => fun
  | [d1, d2] => { results := [.lit (.bool true)], args := [d1, d2] }
  | _ => none }
def spanTurnsRow : OpenClaim := { program := "ytakcdkcikopoiaa", sum := "49f46efbb51d0cb1af22cc160f80ff1ec6cb07dc10a4dfffb83785675a030b91", func := "mothball/mothballlaw15.SpanTurns", spec := "spanTurns", apart := false }
def SpanTurnsSaid : Prop := spanTurnsRow.holds Try.pinned (OpenSpec.ofChange spanTurnsSpec)

/-- ITS FALSE NEIGHBOUR: 'it returns false'. Refute it at one input. -/
def spanTurnsWrong : ChangeSpec := { name := "spanTurns", fn := fun _ => fun
  | [d1, d2] => { results := [.lit (.bool false)], args := [d1, d2] }
  | _ => none }
def SpanTurnsWrongFalsely : Prop := spanTurnsRow.holds Try.pinned (OpenSpec.ofChange spanTurnsWrong)

/-- 'mothballlaw15.SpanObjects': WHATEVER THE INPUT: true; the input reads as it did. -/
def spanObjectsSpec : ChangeSpec := { name := "spanObjects", fn := fun _ => fun
  | [d1, d2] => { results := [.lit (.bool true)], args := [d1, d2] }
  | _ => none }
def spanObjectsRow : OpenClaim := { program := "ytakcdkcikopoiaa", sum := "49f46efbb51d0cb1af22cc160f80ff1ec6cb07dc10a4dfffb83785675a030b91", func := "mothball/mothballlaw15.SpanObjects", spec := "spanObjects", apart := false }
def SpanObjectsSaid : Prop := spanObjectsRow.holds Try.pinned (OpenSpec.ofChange spanObjectsSpec)

/-- ITS FALSE NEIGHBOUR: 'it returns false'. Refute it at one input. -/
def spanObjectsWrong : ChangeSpec := { name := "spanObjects", fn := fun _ => fun
  | [d1, d2] => { results := [.lit (.bool false)], args := [d1, d2] }
  | _ => none }
def SpanObjectsWrongFalsely : Prop := spanObjectsRow.holds Try.pinned (OpenSpec.ofChange spanObjectsWrong)

/-- 'mothballlaw15.SpanOctets': WHATEVER THE INPUT: true; the input reads as it did. -/
def spanOctetsSpec : ChangeSpec := { name := "spanOctets", fn := fun _ => fun
  | [d1, d2] => { results := [.lit (.bool true)], args := [d1, d2] }
  | _ => none }
def spanOctetsRow : OpenClaim := { program := "ytakcdkcikopoiaa", sum := "49f46efbb51d0cb1af22cc160f80ff1ec6cb07dc10a4dfffb83785675a030b91", func := "mothball/mothballlaw15.SpanOctets", spec := "spanOctets", apart := false }
def SpanOctetsSaid : Prop := spanOctetsRow.holds Try.pinned (OpenSpec.ofChange spanOctetsSpec)

/-- ITS FALSE NEIGHBOUR: 'it returns false'. Refute it at one input. -/
def spanOctetsWrong : ChangeSpec := { name := "spanOctets", fn := fun _ => fun
  | [d1, d2] => { results := [.lit (.bool false)], args := [d1, d2] }
  | _ => none }
def SpanOctetsWrongFalsely : Prop := spanOctetsRow.holds Try.pinned (OpenSpec.ofChange spanOctetsWrong)

/- THE SECOND FORM. 'bulk': how many values and letters a reading holds, each counted each time it is reached (what is shared counts as often as it is met; a slice's spare places count too). A statement '..UptoSaid' is the law's where the arguments, and the package variables that the reading takes, are together of bulk at most 1048576: NARROWER than '..Said'. Prove '..Said' where nothing that the law and all that it calls make is longer than what came in: it says more and counts as full. Else prove '..UptoSaid'. A law counts once. -/
mutual
def uptoBulk {H : Type} : DataW H → Nat
  | .lit (.string bytes) => bytes.length + 1
  | .lit _ => 1
  | .nil => 1
  | .ptr d => uptoBulk d + 1
  | .slice elems spare => uptoBulkAll elems + uptoBulkAll spare + 1
  | .agg parts => uptoBulkAll parts + 1
  | .iface _ d => uptoBulk d + 1
  | .map entries => uptoBulkEntries entries + 1
  | .held _ => 1
def uptoBulkAll {H : Type} : List (DataW H) → Nat
  | [] => 0
  | d :: r => uptoBulk d + uptoBulkAll r
def uptoBulkEntries {H : Type} : List (Lit × DataW H) → Nat
  | [] => 0
  | x :: r => uptoBulkEntry x + uptoBulkEntries r
def uptoBulkEntry {H : Type} : Lit × DataW H → Nat
  | (.string bytes, d) => bytes.length + uptoBulk d + 1
  | (_, d) => uptoBulk d + 1
 end
def uptoSmall : (H : Type) → List (DataW H) → Bool := fun _ ds => decide (uptoBulkAll ds ≤ 1048576)
def OpenSpec.upto (s : _root_.Go.ChangeSpec) : _root_.Go.OpenSpec := { _root_.Go.OpenSpec.ofChange s with cond := some uptoSmall }

/-- 'mothballlaw15.SpanRights', WHERE WHAT IT READS IS OF BULK AT MOST 1048576: true; the input reads as it did. -/
def spanRightsUptoRow : OpenClaim := { program := "ytakcdkcikopoiaa", sum := "49f46efbb51d0cb1af22cc160f80ff1ec6cb07dc10a4dfffb83785675a030b91", func := "mothball/mothballlaw15.SpanRights", spec := "spanRights", apart := false, narrowed := true }
def SpanRightsUptoSaid : Prop := spanRightsUptoRow.holds Try.pinned (OpenSpec.upto spanRightsSpec)

/-- 'mothballlaw15.SpanTurns', WHERE WHAT IT READS IS OF BULK AT MOST 1048576: true; the input reads as it did. -/
def spanTurnsUptoRow : OpenClaim := { program := "ytakcdkcikopoiaa", sum := "49f46efbb51d0cb1af22cc160f80ff1ec6cb07dc10a4dfffb83785675a030b91", func := "mothball/mothballlaw15.SpanTurns", spec := "spanTurns", apart := false, narrowed := true }
def SpanTurnsUptoSaid : Prop := spanTurnsUptoRow.holds Try.pinned (OpenSpec.upto spanTurnsSpec)

/-- 'mothballlaw15.SpanObjects', WHERE WHAT IT READS IS OF BULK AT MOST 1048576: true; the input reads as it did. -/
def spanObjectsUptoRow : OpenClaim := { program := "ytakcdkcikopoiaa", sum := "49f46efbb51d0cb1af22cc160f80ff1ec6cb07dc10a4dfffb83785675a030b91", func := "mothball/mothballlaw15.SpanObjects", spec := "spanObjects", apart := false, narrowed := true }
def SpanObjectsUptoSaid : Prop := spanObjectsUptoRow.holds Try.pinned (OpenSpec.upto spanObjectsSpec)

/-- 'mothballlaw15.SpanOctets', WHERE WHAT IT READS IS OF BULK AT MOST 1048576: true; the input reads as it did. -/
def spanOctetsUptoRow : OpenClaim := { program := "ytakcdkcikopoiaa", sum := "49f46efbb51d0cb1af22cc160f80ff1ec6cb07dc10a4dfffb83785675a030b91", func := "mothball/mothballlaw15.SpanOctets", spec := "spanOctets", apart := false, narrowed := true }
def SpanOctetsUptoSaid : Prop := spanOctetsUptoRow.holds Try.pinned (OpenSpec.upto spanOctetsSpec)

end Rows
end Go.Proofs.Ytakcdkcikopoiaa
