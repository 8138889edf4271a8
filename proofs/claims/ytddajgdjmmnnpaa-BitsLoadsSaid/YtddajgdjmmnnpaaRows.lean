/-
  No cell of these rows narrows 'for every input' (looked for: loops, veiled, ifaces, maps, wideKeys, modest, calm, conditions, laid).
  DERIVED. THE GIVEN ROWS OF THIS SEAT. 3 by the template 'for every input the law returns true; each argument reads behind the call as it read before'; 0 by the template 'total and deterministic' (their statements: YtddajgdjmmnnpaaTotals.lean).
  GIVEN WITH THE SEED: the statements are not yours to turn. If you find one false, say at which input.
  Laid BY PROGRAM, IN A SANDBOX (cutbox-rows.mjs): the forced cells as the released guide's own fill.sh prints them over the translation 74ea883f94b336bc… (all of the seat's roots in one cut). By AI agents, Wed Nov 11 2026. No macro, syntax, notation, axiom, sorry.
-/
import Derived.Test.YtddajgdjmmnnpaaChecked
import GoSem.Claim
import GoSem.ClaimJoined
import GoSem.ClaimMapViews
import Derived.JoinedTies
import Derived.KernelRfl
namespace Go.Proofs.Ytddajgdjmmnnpaa
/- THE CELL 'sum', in the pinned program and in every row, IS THE sha256 OF THE DUMP (.gsa) THAT YtddajgdjmmnnpaaProg.lean LOADS. Nothing in Lean hashes anything: it is a label: what it is worth is what the hold of that sum in a sandbox is worth. -/
noncomputable def Try.pinned : Pinned := { name := "ytddajgdjmmnnpaa", sum := "74ea883f94b336bc9655399dc75538ba9b9d2ce8023874598895ee7f52afdd67", checked := Try.checked }
namespace Rows
def none {H : Type} : Left H := { results := [], args := [] }

/-- 'mothballlaw08.BitsEach': WHATEVER THE INPUT: true; the input reads as it did. -/
def bitsEachSpec : ChangeSpec := { name := "bitsEach", fn := fun _ => fun
  | [d1, d2] => { results := [.lit (.bool true)], args := [d1, d2] }
  | _ => none }
def bitsEachRow : OpenClaim := { program := "ytddajgdjmmnnpaa", sum := "74ea883f94b336bc9655399dc75538ba9b9d2ce8023874598895ee7f52afdd67", func := "mothball/mothballlaw08.BitsEach", spec := "bitsEach", apart := false }
def BitsEachSaid : Prop := bitsEachRow.holds Try.pinned (OpenSpec.ofChange bitsEachSpec)

/-- ITS FALSE NEIGHBOUR: 'it returns false'. Refute it at one input. -/
def bitsEachWrong : ChangeSpec := { name := "bitsEach", fn := fun _ => fun
  | [d1, d2] => { results := [.lit (.bool false)], args := [d1, d2] }
  | _ => none }
def BitsEachWrongFalsely : Prop := bitsEachRow.holds Try.pinned (OpenSpec.ofChange bitsEachWrong)

/-- 'mothballlaw08.BitsRuns': WHATEVER THE INPUT: true; the input reads as it did. -/
def bitsRunsSpec : ChangeSpec := { name := "bitsRuns", fn := fun _ => fun
  | [d1, d2] => { results := [.lit (.bool true)], args := [d1, d2] }
  | _ => none }
def bitsRunsRow : OpenClaim := { program := "ytddajgdjmmnnpaa", sum := "74ea883f94b336bc9655399dc75538ba9b9d2ce8023874598895ee7f52afdd67", func := "mothball/mothballlaw08.BitsRuns", spec := "bitsRuns", apart := false }
def BitsRunsSaid : Prop := bitsRunsRow.holds Try.pinned (OpenSpec.ofChange bitsRunsSpec)

/-- ITS FALSE NEIGHBOUR: 'it returns false'. Refute it at one input. -/
def bitsRunsWrong : ChangeSpec := { name := "bitsRuns", fn := fun _ => fun
  | [d1, d2] => { results := [.lit (.bool false)], args := [d1, d2] }
  | _ => none }
def BitsRunsWrongFalsely : Prop := bitsRunsRow.holds Try.pinned (OpenSpec.ofChange bitsRunsWrong)

/-- 'mothballlaw08.BitsLoads': WHATEVER THE INPUT: true; the input reads as it did. -/
def bitsLoadsSpec : ChangeSpec := { name := "bitsLoads", fn := fun _ => fun
  | [d1, d2] => { results := [.lit (.bool true)], args := [d1, d2] }
  | _ => none }
def bitsLoadsRow : OpenClaim := { program := "ytddajgdjmmnnpaa", sum := "74ea883f94b336bc9655399dc75538ba9b9d2ce8023874598895ee7f52afdd67", func := "mothball/mothballlaw08.BitsLoads", spec := "bitsLoads", apart := false }
def BitsLoadsSaid : Prop := bitsLoadsRow.holds Try.pinned (OpenSpec.ofChange bitsLoadsSpec)

/-- ITS FALSE NEIGHBOUR: 'it returns false'. Refute it at one input. -/
def bitsLoadsWrong : ChangeSpec := { name := "bitsLoads", fn := fun _ => fun
  | [d1, d2] => { results := [.lit (.bool false)], args := [d1, d2] }
  | _ => none }
def BitsLoadsWrongFalsely : Prop := bitsLoadsRow.holds Try.pinned (OpenSpec.ofChange bitsLoadsWrong)

/- THE SECOND FORM. 'bulk': how many values and letters a reading holds, each counted each time it is reached (what is shared counts as often as it is met; a slice's spare places count too). A statement '..UptoSaid' is the law's where the arguments, and the package variables that the reading takes, are together of bulk at most 1048576: NARROWER than '..Said'. Prove '..Said' where nothing that the law and all that it calls make is longer than what came in: it says more and counts as full. Else prove '..UptoSaid'. A law counts once. -/
mutual
def uptoBulk {H : Type} : DataW H → Nat
  | .lit (.string bytes) => bytes.length + 1
  | .lit _ => 1
  | .nil => 1
  | .ptr d => uptoBulk d + 1
  | .slice elems spare => uptoBulkAll elems + uptoBulkAll spare + 1
  | .agg parts => uptoBulkAll parts + 1
  | .iface _ d => uptoBulk d + 1
  | .map entries => uptoBulkEntries entries + 1
  | .held _ => 1
def uptoBulkAll {H : Type} : List (DataW H) → Nat
  | [] => 0
  | d :: r => uptoBulk d + uptoBulkAll r
def uptoBulkEntries {H : Type} : List (Lit × DataW H) → Nat
  | [] => 0
  | x :: r => uptoBulkEntry x + uptoBulkEntries r
def uptoBulkEntry {H : Type} : Lit × DataW H → Nat
  | (.string bytes, d) => bytes.length + uptoBulk d + 1
  | (_, d) => uptoBulk d + 1
 end
def uptoSmall : (H : Type) → List (DataW H) → Bool := fun _ ds => decide (uptoBulkAll ds ≤ 1048576)
def OpenSpec.upto (s : _root_.Go.ChangeSpec) : _root_.Go.OpenSpec := { _root_.Go.OpenSpec.ofChange s with cond := some uptoSmall }

/-- 'mothballlaw08.BitsEach', WHERE WHAT IT READS IS OF BULK AT MOST 1048576: true; the input reads as it did. -/
def bitsEachUptoRow : OpenClaim := { program := "ytddajgdjmmnnpaa", sum := "74ea883f94b336bc9655399dc75538ba9b9d2ce8023874598895ee7f52afdd67", func := "mothball/mothballlaw08.BitsEach", spec := "bitsEach", apart := false, narrowed := true }
def BitsEachUptoSaid : Prop := bitsEachUptoRow.holds Try.pinned (OpenSpec.upto bitsEachSpec)

/-- 'mothballlaw08.BitsRuns', WHERE WHAT IT READS IS OF BULK AT MOST 1048576: true; the input reads as it did. -/
def bitsRunsUptoRow : OpenClaim := { program := "ytddajgdjmmnnpaa", sum := "74ea883f94b336bc9655399dc75538ba9b9d2ce8023874598895ee7f52afdd67", func := "mothball/mothballlaw08.BitsRuns", spec := "bitsRuns", apart := false, narrowed := true }
def BitsRunsUptoSaid : Prop := bitsRunsUptoRow.holds Try.pinned (OpenSpec.upto bitsRunsSpec)

/-- 'mothballlaw08.BitsLoads', WHERE WHAT IT READS IS OF BULK AT MOST 1048576: true; the input reads as it did. -/
def bitsLoadsUptoRow : OpenClaim := { program := "ytddajgdjmmnnpaa", sum := "74ea883f94b336bc9655399dc75538ba9b9d2ce8023874598895ee7f52afdd67", func := "mothball/mothballlaw08.BitsLoads", spec := "bitsLoads", apart := false, narrowed := true }
def BitsLoadsUptoSaid : Prop := bitsLoadsUptoRow.holds Try.pinned (OpenSpec.upto bitsLoadsSpec)

end Rows
end Go.Proofs.Ytddajgdjmmnnpaa
