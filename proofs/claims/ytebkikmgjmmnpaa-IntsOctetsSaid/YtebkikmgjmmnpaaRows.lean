/-
  No cell of these rows narrows 'for every input' (looked for: loops, veiled, ifaces, maps, wideKeys, modest, calm, conditions, laid).
  DERIVED. THE GIVEN ROWS OF THIS SEAT. 6 by the template 'for every input the law returns true; each argument reads behind the call as it read before'; 0 by the template 'total and deterministic' (their statements: YtebkikmgjmmnpaaTotals.lean).
  GIVEN WITH THE SEED: the statements are not yours to turn. If you find one false, say at which input.
  Laid BY PROGRAM, IN A SANDBOX (cutbox-rows.mjs): the forced cells as the released guide's own fill.sh prints them over the translation 34c067fc50a42b9c… (all of the seat's roots in one cut). By AI agents, Wed Nov 11 2026. No macro, syntax, notation, axiom, sorry.
-/
import Derived.Test.YtebkikmgjmmnpaaChecked
import GoSem.Claim
import GoSem.ClaimJoined
import GoSem.ClaimMapViews
import Derived.JoinedTies
import Derived.KernelRfl
namespace Go.Proofs.Ytebkikmgjmmnpaa
/- THE CELL 'sum', in the pinned program and in every row, IS THE sha256 OF THE DUMP (.gsa) THAT YtebkikmgjmmnpaaProg.lean LOADS. Nothing in Lean hashes anything: it is a label: what it is worth is what the hold of that sum in a sandbox is worth. -/
noncomputable def Try.pinned : Pinned := { name := "ytebkikmgjmmnpaa", sum := "34c067fc50a42b9c0a7679420a6fea5782f7a19cf5171f7edf7780da2ff8cc71", checked := Try.checked }
namespace Rows
def none {H : Type} : Left H := { results := [], args := [] }

/-- 'mothballlaw01.IntsUps': WHATEVER THE INPUT: true; the input reads as it did. -/
def intsUpsSpec : ChangeSpec := { name := "intsUps", fn := fun _ => fun
  | [d1, d2] => { results := [.lit (.bool true)], args := [d1, d2] }
  | _ => none }
def intsUpsRow : OpenClaim := { program := "ytebkikmgjmmnpaa", sum := "34c067fc50a42b9c0a7679420a6fea5782f7a19cf5171f7edf7780da2ff8cc71", func := "mothball/mothballlaw01.IntsUps", spec := "intsUps", apart := false }
def IntsUpsSaid : Prop := intsUpsRow.holds Try.pinned (OpenSpec.ofChange intsUpsSpec)

/-- ITS FALSE NEIGHBOUR: 'it returns false'. Refute it at one input. -/
def intsUpsWrong : ChangeSpec := { name := "intsUps", fn := fun _ => fun
  | [d1, d2] => { results := [.lit (.bool false)], args := [d1, d2] }
  | _ => none }
def IntsUpsWrongFalsely : Prop := intsUpsRow.holds Try.pinned (OpenSpec.ofChange intsUpsWrong)

/-- 'mothballlaw01.IntsZigs': WHATEVER THE INPUT: true; the input reads as it did. -/
def intsZigsSpec : ChangeSpec := { name := "intsZigs", fn := fun _ => fun
  | [d1, d2, d3] => { results := [.lit (.bool true)], args := [d1, d2, d3] }
  | _ => none }
def intsZigsRow : OpenClaim := { program := "ytebkikmgjmmnpaa", sum := "34c067fc50a42b9c0a7679420a6fea5782f7a19cf5171f7edf7780da2ff8cc71", func := "mothball/mothballlaw01.IntsZigs", spec := "intsZigs", apart := false }
def IntsZigsSaid : Prop := intsZigsRow.holds Try.pinned (OpenSpec.ofChange intsZigsSpec)

/-- ITS FALSE NEIGHBOUR: 'it returns false'. Refute it at one input. -/
def intsZigsWrong : ChangeSpec := { name := "intsZigs", fn := fun _ => fun
  | [d1, d2, d3] => { results := [.lit (.bool false)], args := [d1, d2, d3] }
  | _ => none }
def IntsZigsWrongFalsely : Prop := intsZigsRow.holds Try.pinned (OpenSpec.ofChange intsZigsWrong)

/-- 'mothballlaw01.IntsShorts': WHATEVER THE INPUT: true; the input reads as it did. -/
def intsShortsSpec : ChangeSpec := { name := "intsShorts", fn := fun _ => fun
  | [d1, d2] => { results := [.lit (.bool true)], args := [d1, d2] }
  | _ => none }
def intsShortsRow : OpenClaim := { program := "ytebkikmgjmmnpaa", sum := "34c067fc50a42b9c0a7679420a6fea5782f7a19cf5171f7edf7780da2ff8cc71", func := "mothball/mothballlaw01.IntsShorts", spec := "intsShorts", apart := false }
def IntsShortsSaid : Prop := intsShortsRow.holds Try.pinned (OpenSpec.ofChange intsShortsSpec)

/-- ITS FALSE NEIGHBOUR: 'it returns false'. Refute it at one input. -/
def intsShortsWrong : ChangeSpec := { name := "intsShorts", fn := fun _ => fun
  | [d1, d2] => { results := [.lit (.bool false)], args := [d1, d2] }
  | _ => none }
def IntsShortsWrongFalsely : Prop := intsShortsRow.holds Try.pinned (OpenSpec.ofChange intsShortsWrong)

/-- 'mothballlaw01.IntsSigns': WHATEVER THE INPUT: true; the input reads as it did. -/
def intsSignsSpec : ChangeSpec := { name := "intsSigns", fn := fun _ => fun
  | [d1, d2] => { results := [.lit (.bool true)], args := [d1, d2] }
  | _ => none }
def intsSignsRow : OpenClaim := { program := "ytebkikmgjmmnpaa", sum := "34c067fc50a42b9c0a7679420a6fea5782f7a19cf5171f7edf7780da2ff8cc71", func := "mothball/mothballlaw01.IntsSigns", spec := "intsSigns", apart := false }
def IntsSignsSaid : Prop := intsSignsRow.holds Try.pinned (OpenSpec.ofChange intsSignsSpec)

/-- ITS FALSE NEIGHBOUR: 'it returns false'. Refute it at one input. -/
def intsSignsWrong : ChangeSpec := { name := "intsSigns", fn := fun _ => fun
  | [d1, d2] => { results := [.lit (.bool false)], args := [d1, d2] }
  | _ => none }
def IntsSignsWrongFalsely : Prop := intsSignsRow.holds Try.pinned (OpenSpec.ofChange intsSignsWrong)

/-- 'mothballlaw01.IntsOctets': WHATEVER THE INPUT: true; the input reads as it did. -/
def intsOctetsSpec : ChangeSpec := { name := "intsOctets", fn := fun _ => fun
  | [d1, d2, d3] => { results := [.lit (.bool true)], args := [d1, d2, d3] }
  | _ => none }
def intsOctetsRow : OpenClaim := { program := "ytebkikmgjmmnpaa", sum := "34c067fc50a42b9c0a7679420a6fea5782f7a19cf5171f7edf7780da2ff8cc71", func := "mothball/mothballlaw01.IntsOctets", spec := "intsOctets", apart := false }
def IntsOctetsSaid : Prop := intsOctetsRow.holds Try.pinned (OpenSpec.ofChange intsOctetsSpec)

/-- ITS FALSE NEIGHBOUR: 'it returns false'. Refute it at one input. -/
def intsOctetsWrong : ChangeSpec := { name := "intsOctets", fn := fun _ => fun
  | [d1, d2, d3] => { results := [.lit (.bool false)], args := [d1, d2, d3] }
  | _ => none }
def IntsOctetsWrongFalsely : Prop := intsOctetsRow.holds Try.pinned (OpenSpec.ofChange intsOctetsWrong)

/-- 'mothballlaw01.IntsTurns': WHATEVER THE INPUT: true; the input reads as it did. -/
def intsTurnsSpec : ChangeSpec := { name := "intsTurns", fn := fun _ => fun
  | [d1, d2, d3] => { results := [.lit (.bool true)], args := [d1, d2, d3] }
  | _ => none }
def intsTurnsRow : OpenClaim := { program := "ytebkikmgjmmnpaa", sum := "34c067fc50a42b9c0a7679420a6fea5782f7a19cf5171f7edf7780da2ff8cc71", func := "mothball/mothballlaw01.IntsTurns", spec := "intsTurns", apart := false }
def IntsTurnsSaid : Prop := intsTurnsRow.holds Try.pinned (OpenSpec.ofChange intsTurnsSpec)

/-- ITS FALSE NEIGHBOUR: 'it returns false'. Refute it at one input. -/
def intsTurnsWrong : ChangeSpec := { name := "intsTurns", fn := fun _ => fun
  | [d1, d2, d3] => { results := [.lit (.bool false)], args := [d1, d2, d3] }
  | _ => none }
def IntsTurnsWrongFalsely : Prop := intsTurnsRow.holds Try.pinned (OpenSpec.ofChange intsTurnsWrong)

/- THE SECOND FORM. 'bulk': how many values and letters a reading holds, each counted each time it is reached (what is shared counts as often as it is met; a slice's spare places count too). A statement '..UptoSaid' is the law's where the arguments, and the package variables that the reading takes, are together of bulk at most 1048576: NARROWER than '..Said'. Prove '..Said' where nothing that the law and all that it calls make is longer than what came in: it says more and counts as full. Else prove '..UptoSaid'. A law counts once. -/
mutual
def uptoBulk {H : Type} : DataW H → Nat
  | .lit (.string bytes) => bytes.length + 1
  | .lit _ => 1
  | .nil => 1
  | .ptr d => uptoBulk d + 1
  | .slice elems spare => uptoBulkAll elems + uptoBulkAll spare + 1
  | .agg parts => uptoBulkAll parts + 1
  | .iface _ d => uptoBulk d + 1
  | .map entries => uptoBulkEntries entries + 1
  | .held _ => 1
def uptoBulkAll {H : Type} : List (DataW H) → Nat
  | [] => 0
  | d :: r => uptoBulk d + uptoBulkAll r
def uptoBulkEntries {H : Type} : List (Lit × DataW H) → Nat
  | [] => 0
  | x :: r => uptoBulkEntry x + uptoBulkEntries r
def uptoBulkEntry {H : Type} : Lit × DataW H → Nat
  | (.string bytes, d) => bytes.length + uptoBulk d + 1
  | (_, d) => uptoBulk d + 1
 end
def uptoSmall : (H : Type) → List (DataW H) → Bool := fun _ ds => decide (uptoBulkAll ds ≤ 1048576)
def OpenSpec.upto (s : _root_.Go.ChangeSpec) : _root_.Go.OpenSpec := { _root_.Go.OpenSpec.ofChange s with cond := some uptoSmall }

/-- 'mothballlaw01.IntsUps', WHERE WHAT IT READS IS OF BULK AT MOST 1048576: true; the input reads as it did. -/
def intsUpsUptoRow : OpenClaim := { program := "ytebkikmgjmmnpaa", sum := "34c067fc50a42b9c0a7679420a6fea5782f7a19cf5171f7edf7780da2ff8cc71", func := "mothball/mothballlaw01.IntsUps", spec := "intsUps", apart := false, narrowed := true }
def IntsUpsUptoSaid : Prop := intsUpsUptoRow.holds Try.pinned (OpenSpec.upto intsUpsSpec)

/-- 'mothballlaw01.IntsZigs', WHERE WHAT IT READS IS OF BULK AT MOST 1048576: true; the input reads as it did. -/
def intsZigsUptoRow : OpenClaim := { program := "ytebkikmgjmmnpaa", sum := "34c067fc50a42b9c0a7679420a6fea5782f7a19cf5171f7edf7780da2ff8cc71", func := "mothball/mothballlaw01.IntsZigs", spec := "intsZigs", apart := false, narrowed := true }
def IntsZigsUptoSaid : Prop := intsZigsUptoRow.holds Try.pinned (OpenSpec.upto intsZigsSpec)

/-- 'mothballlaw01.IntsShorts', WHERE WHAT IT READS IS OF BULK AT MOST 1048576: true; the input reads as it did. -/
def intsShortsUptoRow : OpenClaim := { program := "ytebkikmgjmmnpaa", sum := "34c067fc50a42b9c0a7679420a6fea5782f7a19cf5171f7edf7780da2ff8cc71", func := "mothball/mothballlaw01.IntsShorts", spec := "intsShorts", apart := false, narrowed := true }
def IntsShortsUptoSaid : Prop := intsShortsUptoRow.holds Try.pinned (OpenSpec.upto intsShortsSpec)

/-- 'mothballlaw01.IntsSigns', WHERE WHAT IT READS IS OF BULK AT MOST 1048576: true; the input reads as it did. -/
def intsSignsUptoRow : OpenClaim := { program := "ytebkikmgjmmnpaa", sum := "34c067fc50a42b9c0a7679420a6fea5782f7a19cf5171f7edf7780da2ff8cc71", func := "mothball/mothballlaw01.IntsSigns", spec := "intsSigns", apart := false, narrowed := true }
def IntsSignsUptoSaid : Prop := intsSignsUptoRow.holds Try.pinned (OpenSpec.upto intsSignsSpec)

/-- 'mothballlaw01.IntsOctets', WHERE WHAT IT READS IS OF BULK AT MOST 1048576: true; the input reads as it did. -/
def intsOctetsUptoRow : OpenClaim := { program := "ytebkikmgjmmnpaa", sum := "34c067fc50a42b9c0a7679420a6fea5782f7a19cf5171f7edf7780da2ff8cc71", func := "mothball/mothballlaw01.IntsOctets", spec := "intsOctets", apart := false, narrowed := true }
def IntsOctetsUptoSaid : Prop := intsOctetsUptoRow.holds Try.pinned (OpenSpec.upto intsOctetsSpec)

/-- 'mothballlaw01.IntsTurns', WHERE WHAT IT READS IS OF BULK AT MOST 1048576: true; the input reads as it did. -/
def intsTurnsUptoRow : OpenClaim := { program := "ytebkikmgjmmnpaa", sum := "34c067fc50a42b9c0a7679420a6fea5782f7a19cf5171f7edf7780da2ff8cc71", func := "mothball/mothballlaw01.IntsTurns", spec := "intsTurns", apart := false, narrowed := true }
def IntsTurnsUptoSaid : Prop := intsTurnsUptoRow.holds Try.pinned (OpenSpec.upto intsTurnsSpec)

end Rows
end Go.Proofs.Ytebkikmgjmmnpaa
