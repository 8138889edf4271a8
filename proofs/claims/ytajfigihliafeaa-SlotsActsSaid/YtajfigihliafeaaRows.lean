/-
  No cell of these rows narrows 'for every input' (looked for: loops, veiled, ifaces, maps, wideKeys, modest, calm, conditions, laid).
  DERIVED. THE GIVEN ROWS OF THIS SEAT. 4 by the template 'for every input the law returns true; each argument reads behind the call as it read before'; 0 by the template 'total and deterministic' (their statements: YtajfigihliafeaaTotals.lean).
  GIVEN WITH THE SEED: the statements are not yours to turn. If you find one false, say at which input.
  Laid BY PROGRAM, IN A SANDBOX (cutbox-rows.mjs): the forced cells as the released guide's own fill.sh prints them over the translation 74fc06cc819d169e… (all of the seat's roots in one cut). By AI agents, Wed Nov 11 2026. No macro, syntax, notation, axiom, sorry.
-/
import Derived.Test.YtajfigihliafeaaChecked
import GoSem.Claim
import GoSem.ClaimJoined
import GoSem.ClaimMapViews
import Derived.JoinedTies
import Derived.KernelRfl
namespace Go.Proofs.Ytajfigihliafeaa
/- THE CELL 'sum', in the pinned program and in every row, IS THE sha256 OF THE DUMP (.gsa) THAT YtajfigihliafeaaProg.lean LOADS. Nothing in Lean hashes anything: it is a label: what it is worth is what the hold of that sum in a sandbox is worth. -/
noncomputable def Try.pinned : Pinned := { name := "ytajfigihliafeaa", sum := "74fc06cc819d169e34ccae3bb2bc411ca3b46565b9511f90e094592a4d029cdc", checked := Try.checked }
namespace Rows
def none {H : Type} : Left H := { results := [], args := [] }

/-- 'mothballlaw09.SlotsOnce': WHATEVER THE INPUT: true; the input reads as it did. -/
def slotsOnceSpec : ChangeSpec := { name := "slotsOnce", fn := fun _ => fun
  | [d1, d2] => { results := [.lit (.bool true)], args := [d1, d2] }
  | _ => none }
def slotsOnceRow : OpenClaim := { program := "ytajfigihliafeaa", sum := "74fc06cc819d169e34ccae3bb2bc411ca3b46565b9511f90e094592a4d029cdc", func := "mothball/mothballlaw09.SlotsOnce", spec := "slotsOnce", apart := false }
def SlotsOnceSaid : Prop := slotsOnceRow.holds Try.pinned (OpenSpec.ofChange slotsOnceSpec)

/-- ITS FALSE NEIGHBOUR: 'it returns false'. Refute it at one input. -/
def slotsOnceWrong : ChangeSpec := { name := "slotsOnce", fn := fun _ => fun
  | [d1, d2] => { results := [.lit (.bool false)], args := [d1, d2] }
  | _ => none }
def SlotsOnceWrongFalsely : Prop := slotsOnceRow.holds Try.pinned (OpenSpec.ofChange slotsOnceWrong)

/-- 'mothballlaw09.SlotsFew': WHATEVER THE INPUT: true; the input reads as it did. -/
def slotsFewSpec : ChangeSpec := { name := "slotsFew", fn := fun _ => fun
  | [d1, d2] => { results := [.lit (.bool true)], args := [d1, d2] }
  | _ => none }
def slotsFewRow : OpenClaim := { program := "ytajfigihliafeaa", sum := "74fc06cc819d169e34ccae3bb2bc411ca3b46565b9511f90e094592a4d029cdc", func := "mothball/mothballlaw09.SlotsFew", spec := "slotsFew", apart := false }
def SlotsFewSaid : Prop := slotsFewRow.holds Try.pinned (OpenSpec.ofChange slotsFewSpec)

/-- ITS FALSE NEIGHBOUR: 'it returns false'. Refute it at one input. -/
def slotsFewWrong : ChangeSpec := { name := "slotsFew", fn := fun _ => fun
  | [d1, d2] => { results := [.lit (.bool false)], args := [d1, d2] }
  | _ => none }
def SlotsFewWrongFalsely : Prop := slotsFewRow.holds Try.pinned (OpenSpec.ofChange slotsFewWrong)

/-- 'mothballlaw09.SlotsBack': WHATEVER THE INPUT: true; the input reads as it did. -/
def slotsBackSpec : ChangeSpec := { name := "slotsBack", fn := fun _ => fun
  | [d1, d2] => { results := [.lit (.bool true)], args := [d1, d2] }
  | _ => none }
def slotsBackRow : OpenClaim := { program := "ytajfigihliafeaa", sum := "74fc06cc819d169e34ccae3bb2bc411ca3b46565b9511f90e094592a4d029cdc", func := "mothball/mothballlaw09.SlotsBack", spec := "slotsBack", apart := false }
def SlotsBackSaid : Prop := slotsBackRow.holds Try.pinned (OpenSpec.ofChange slotsBackSpec)

/-- ITS FALSE NEIGHBOUR: 'it returns false'. Refute it at one input. -/
def slotsBackWrong : ChangeSpec := { name := "slotsBack", fn := fun _ => fun
  | [d1, d2] => { results := [.lit (.bool false)], args := [d1, d2] }
  | _ => none }
def SlotsBackWrongFalsely : Prop := slotsBackRow.holds Try.pinned (OpenSpec.ofChange slotsBackWrong)

/-- 'mothballlaw09.SlotsActs': WHATEVER THE INPUT: true; the input reads as it did. -/
def slotsActsSpec : ChangeSpec := { name := "slotsActs", fn := fun _ => fun
  | [d1, d2, d3] => { results := [.lit (.bool true)], args := [d1, d2, d3] }
  | _ => none }
def slotsActsRow : OpenClaim := { program := "ytajfigihliafeaa", sum := "74fc06cc819d169e34ccae3bb2bc411ca3b46565b9511f90e094592a4d029cdc", func := "mothball/mothballlaw09.SlotsActs", spec := "slotsActs", apart := false }
def SlotsActsSaid : Prop := slotsActsRow.holds Try.pinned (OpenSpec.ofChange slotsActsSpec)

/-- ITS FALSE NEIGHBOUR: 'it returns false'. Refute it at one input. -/
def slotsActsWrong : ChangeSpec := { name := "slotsActs", fn := fun _ => fun
  | [d1, d2, d3] => { results := [.lit (.bool false)], args := [d1, d2, d3] }
  | _ => none }
def SlotsActsWrongFalsely : Prop := slotsActsRow.holds Try.pinned (OpenSpec.ofChange slotsActsWrong)

/- THE SECOND FORM. 'bulk': how many values and letters a reading holds, each counted each time it is reached (what is shared counts as often as it is met; a slice's spare places count too). A statement '..UptoSaid' is the law's where the arguments, and the package variables that the reading takes, are together of bulk at most 1048576: NARROWER than '..Said'. Prove '..Said' where nothing that the law and all that it calls make is longer than what came in: it says more and counts as full. Else prove '..UptoSaid'. A law counts once. -/
mutual
def uptoBulk {H : Type} : DataW H → Nat
  | .lit (.string bytes) => bytes.length + 1
  | .lit _ => 1
  | .nil => 1
  | .ptr d => uptoBulk d + 1
  | .slice elems spare => uptoBulkAll elems + uptoBulkAll spare + 1
  | .agg parts => uptoBulkAll parts + 1
  | .iface _ d => uptoBulk d + 1
  | .map entries => uptoBulkEntries entries + 1
  | .held _ => 1
def uptoBulkAll {H : Type} : List (DataW H) → Nat
  | [] => 0
  | d :: r => uptoBulk d + uptoBulkAll r
def uptoBulkEntries {H : Type} : List (Lit × DataW H) → Nat
  | [] => 0
  | x :: r => uptoBulkEntry x + uptoBulkEntries r
def uptoBulkEntry {H : Type} : Lit × DataW H → Nat
  | (.string bytes, d) => bytes.length + uptoBulk d + 1
  | (_, d) => uptoBulk d + 1
 end
def uptoSmall : (H : Type) → List (DataW H) → Bool := fun _ ds => decide (uptoBulkAll ds ≤ 1048576)
def OpenSpec.upto (s : _root_.Go.ChangeSpec) : _root_.Go.OpenSpec := { _root_.Go.OpenSpec.ofChange s with cond := some uptoSmall }

/-- 'mothballlaw09.SlotsOnce', WHERE WHAT IT READS IS OF BULK AT MOST 1048576: true; the input reads as it did. -/
def slotsOnceUptoRow : OpenClaim := { program := "ytajfigihliafeaa", sum := "74fc06cc819d169e34ccae3bb2bc411ca3b46565b9511f90e094592a4d029cdc", func := "mothball/mothballlaw09.SlotsOnce", spec := "slotsOnce", apart := false, narrowed := true }
def SlotsOnceUptoSaid : Prop := slotsOnceUptoRow.holds Try.pinned (OpenSpec.upto slotsOnceSpec)

/-- 'mothballlaw09.SlotsFew', WHERE WHAT IT READS IS OF BULK AT MOST 1048576: true; the input reads as it did. -/
def slotsFewUptoRow : OpenClaim := { program := "ytajfigihliafeaa", sum := "74fc06cc819d169e34ccae3bb2bc411ca3b46565b9511f90e094592a4d029cdc", func := "mothball/mothballlaw09.SlotsFew", spec := "slotsFew", apart := false, narrowed := true }
def SlotsFewUptoSaid : Prop := slotsFewUptoRow.holds Try.pinned (OpenSpec.upto slotsFewSpec)

/-- 'mothballlaw09.SlotsBack', WHERE WHAT IT READS IS OF BULK AT MOST 1048576: true; the input reads as it did. -/
def slotsBackUptoRow : OpenClaim := { program := "ytajfigihliafeaa", sum := "74fc06cc819d169e34ccae3bb2bc411ca3b46565b9511f90e094592a4d029cdc", func := "mothball/mothballlaw09.SlotsBack", spec := "slotsBack", apart := false, narrowed := true }
def SlotsBackUptoSaid : Prop := slotsBackUptoRow.holds Try.pinned (OpenSpec.upto slotsBackSpec)

/-- 'mothballlaw09.SlotsActs', WHERE WHAT IT READS IS OF BULK AT MOST 1048576: true; the input reads as it did. -/
def slotsActsUptoRow : OpenClaim := { program := "ytajfigihliafeaa", sum := "74fc06cc819d169e34ccae3bb2bc411ca3b46565b9511f90e094592a4d029cdc", func := "mothball/mothballlaw09.SlotsActs", spec := "slotsActs", apart := false, narrowed := true }
def SlotsActsUptoSaid : Prop := slotsActsUptoRow.holds Try.pinned (OpenSpec.upto slotsActsSpec)

end Rows
end Go.Proofs.Ytajfigihliafeaa
