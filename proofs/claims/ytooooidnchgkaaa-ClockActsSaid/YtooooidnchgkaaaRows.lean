/-
  No cell of these rows narrows 'for every input' (looked for: loops, veiled, ifaces, maps, wideKeys, modest, calm, conditions, laid).
  DERIVED. THE GIVEN ROWS OF THIS SEAT. 4 by the template 'for every input the law returns true; each argument reads behind the call as it read before'; 0 by the template 'total and deterministic' (their statements: YtooooidnchgkaaaTotals.lean).
  GIVEN WITH THE SEED: the statements are not yours to turn. If you find one false, say at which input.
  Laid BY PROGRAM, IN A SANDBOX (cutbox-rows.mjs): the forced cells as the released guide's own fill.sh prints them over the translation f757b49870a5d3bd… (all of the seat's roots in one cut). By AI agents, Wed Nov 11 2026. No macro, syntax, notation, axiom, sorry.
-/
import Derived.Test.YtooooidnchgkaaaChecked
import GoSem.Claim
import GoSem.ClaimJoined
import GoSem.ClaimMapViews
import Derived.JoinedTies
import Derived.KernelRfl
namespace Go.Proofs.Ytooooidnchgkaaa
/- THE CELL 'sum', in the pinned program and in every row, IS THE sha256 OF THE DUMP (.gsa) THAT YtooooidnchgkaaaProg.lean LOADS. Nothing in Lean hashes anything: it is a label: what it is worth is what the hold of that sum in a sandbox is worth. -/
noncomputable def Try.pinned : Pinned := { name := "ytooooidnchgkaaa", sum := "f757b49870a5d3bda9129727e5cd3c1026e4b54556f52b1b3e5d82f0747c892e", checked := Try.checked }
namespace Rows
def none {H : Type} : Left H := { results := [], args := [] }

/-- 'mothballlaw21.ClockSpares': WHATEVER THE INPUT: true; the input reads as it did. -/
def clockSparesSpec : ChangeSpec := { name := "clockSpares", fn := fun _ => fun
  | [d1, d2] => { results := [.lit (.bool true)], args := [d1, d2] }
  | _ => none }
def clockSparesRow : OpenClaim := { program := "ytooooidnchgkaaa", sum := "f757b49870a5d3bda9129727e5cd3c1026e4b54556f52b1b3e5d82f0747c892e", func := "mothball/mothballlaw21.ClockSpares", spec := "clockSpares", apart := false }
def ClockSparesSaid : Prop := clockSparesRow.holds Try.pinned (OpenSpec.ofChange clockSparesSpec)

/-- ITS FALSE NEIGHBOUR: 'it returns false'. Refute it at one input. -/
def clockSparesWrong : ChangeSpec := { name := "clockSpares", fn := fun _ => fun
  | [d1, d2] => { results := [.lit (.bool false)], args := [d1, d2] }
  | _ => none }
def ClockSparesWrongFalsely : Prop := clockSparesRow.holds Try.pinned (OpenSpec.ofChange clockSparesWrong)

/-- 'mothballlaw21.ClockTurns': WHATEVER THE INPUT: true; the input reads as it did. -/
def clockTurnsSpec : ChangeSpec := { name := "clockTurns", fn := fun _ => fun
  | [d1, d2] => { results := [.lit (.bool true)], args := [d1, d2] }
  | _ => none }
def clockTurnsRow : OpenClaim := { program := "ytooooidnchgkaaa", sum := "f757b49870a5d3bda9129727e5cd3c1026e4b54556f52b1b3e5d82f0747c892e", func := "mothball/mothballlaw21.ClockTurns", spec := "clockTurns", apart := false }
def ClockTurnsSaid : Prop := clockTurnsRow.holds Try.pinned (OpenSpec.ofChange clockTurnsSpec)

/-- ITS FALSE NEIGHBOUR: 'it returns false'. Refute it at one input. -/
def clockTurnsWrong : ChangeSpec := { name := "clockTurns", fn := fun _ => fun
  | [d1, d2] => { results := [.lit (.bool false)], args := [d1, d2] }
  | _ => none }
def ClockTurnsWrongFalsely : Prop := clockTurnsRow.holds Try.pinned (OpenSpec.ofChange clockTurnsWrong)

/-- 'mothballlaw21.ClockAll': WHATEVER THE INPUT: true; the input reads as it did. -/
def clockAllSpec : ChangeSpec := { name := "clockAll", fn := fun _ => fun
  | [d1, d2, d3] => { results := [.lit (.bool true)], args := [d1, d2, d3] }
  | _ => none }
def clockAllRow : OpenClaim := { program := "ytooooidnchgkaaa", sum := "f757b49870a5d3bda9129727e5cd3c1026e4b54556f52b1b3e5d82f0747c892e", func := "mothball/mothballlaw21.ClockAll", spec := "clockAll", apart := false }
def ClockAllSaid : Prop := clockAllRow.holds Try.pinned (OpenSpec.ofChange clockAllSpec)

/-- ITS FALSE NEIGHBOUR: 'it returns false'. Refute it at one input. -/
def clockAllWrong : ChangeSpec := { name := "clockAll", fn := fun _ => fun
  | [d1, d2, d3] => { results := [.lit (.bool false)], args := [d1, d2, d3] }
  | _ => none }
def ClockAllWrongFalsely : Prop := clockAllRow.holds Try.pinned (OpenSpec.ofChange clockAllWrong)

/-- 'mothballlaw21.ClockActs': WHATEVER THE INPUT: true; the input reads as it did. -/
def clockActsSpec : ChangeSpec := { name := "clockActs", fn := fun _ => fun
  | [d1, d2] => { results := [.lit (.bool true)], args := [d1, d2] }
  | _ => none }
def clockActsRow : OpenClaim := { program := "ytooooidnchgkaaa", sum := "f757b49870a5d3bda9129727e5cd3c1026e4b54556f52b1b3e5d82f0747c892e", func := "mothball/mothballlaw21.ClockActs", spec := "clockActs", apart := false }
def ClockActsSaid : Prop := clockActsRow.holds Try.pinned (OpenSpec.ofChange clockActsSpec)

/-- ITS FALSE NEIGHBOUR: 'it returns false'. Refute it at one input. -/
def clockActsWrong : ChangeSpec := { name := "clockActs", fn := fun _ => fun
  | [d1, d2] => { results := [.lit (.bool false)], args := [d1, d2] }
  | _ => none }
def ClockActsWrongFalsely : Prop := clockActsRow.holds Try.pinned (OpenSpec.ofChange clockActsWrong)

/- THE SECOND FORM. 'bulk': how many values and letters a reading holds, each counted each time it is reached (what is shared counts as often as it is met; a slice's spare places count too). A statement '..UptoSaid' is the law's where the arguments, and the package variables that the reading takes, are together of bulk at most 1048576: NARROWER than '..Said'. Prove '..Said' where nothing that the law and all that it calls make is longer than what came in: it says more and counts as full. Else prove '..UptoSaid'. A law counts once. -/
mutual
def uptoBulk {H : Type} : DataW H → Nat
  | .lit (.string bytes) => bytes.length + 1
  | .lit _ => 1
  | .nil => 1
  | .ptr d => uptoBulk d + 1
  | .slice elems spare => uptoBulkAll elems + uptoBulkAll spare + 1
  | .agg parts => uptoBulkAll parts + 1
  | .iface _ d => uptoBulk d + 1
  | .map entries => uptoBulkEntries entries + 1
  | .held _ => 1
def uptoBulkAll {H : Type} : List (DataW H) → Nat
  | [] => 0
  | d :: r => uptoBulk d + uptoBulkAll r
def uptoBulkEntries {H : Type} : List (Lit × DataW H) → Nat
  | [] => 0
  | x :: r => uptoBulkEntry x + uptoBulkEntries r
def uptoBulkEntry {H : Type} : Lit × DataW H → Nat
  | (.string bytes, d) => bytes.length + uptoBulk d + 1
  | (_, d) => uptoBulk d + 1
 end
def uptoSmall : (H : Type) → List (DataW H) → Bool := fun _ ds => decide (uptoBulkAll ds ≤ 1048576)
def OpenSpec.upto (s : _root_.Go.ChangeSpec) : _root_.Go.OpenSpec := { _root_.Go.OpenSpec.ofChange s with cond := some uptoSmall }

/-- 'mothballlaw21.ClockSpares', WHERE WHAT IT READS IS OF BULK AT MOST 1048576: true; the input reads as it did. -/
def clockSparesUptoRow : OpenClaim := { program := "ytooooidnchgkaaa", sum := "f757b49870a5d3bda9129727e5cd3c1026e4b54556f52b1b3e5d82f0747c892e", func := "mothball/mothballlaw21.ClockSpares", spec := "clockSpares", apart := false, narrowed := true }
def ClockSparesUptoSaid : Prop := clockSparesUptoRow.holds Try.pinned (OpenSpec.upto clockSparesSpec)

/-- 'mothballlaw21.ClockTurns', WHERE WHAT IT READS IS OF BULK AT MOST 1048576: true; the input reads as it did. -/
def clockTurnsUptoRow : OpenClaim := { program := "ytooooidnchgkaaa", sum := "f757b49870a5d3bda9129727e5cd3c1026e4b54556f52b1b3e5d82f0747c892e", func := "mothball/mothballlaw21.ClockTurns", spec := "clockTurns", apart := false, narrowed := true }
def ClockTurnsUptoSaid : Prop := clockTurnsUptoRow.holds Try.pinned (OpenSpec.upto clockTurnsSpec)

/-- 'mothballlaw21.ClockAll', WHERE WHAT IT READS IS OF BULK AT MOST 1048576: true; the input reads as it did. -/
def clockAllUptoRow : OpenClaim := { program := "ytooooidnchgkaaa", sum := "f757b49870a5d3bda9129727e5cd3c1026e4b54556f52b1b3e5d82f0747c892e", func := "mothball/mothballlaw21.ClockAll", spec := "clockAll", apart := false, narrowed := true }
def ClockAllUptoSaid : Prop := clockAllUptoRow.holds Try.pinned (OpenSpec.upto clockAllSpec)

/-- 'mothballlaw21.ClockActs', WHERE WHAT IT READS IS OF BULK AT MOST 1048576: true; the input reads as it did. -/
def clockActsUptoRow : OpenClaim := { program := "ytooooidnchgkaaa", sum := "f757b49870a5d3bda9129727e5cd3c1026e4b54556f52b1b3e5d82f0747c892e", func := "mothball/mothballlaw21.ClockActs", spec := "clockActs", apart := false, narrowed := true }
def ClockActsUptoSaid : Prop := clockActsUptoRow.holds Try.pinned (OpenSpec.upto clockActsSpec)

end Rows
end Go.Proofs.Ytooooidnchgkaaa
