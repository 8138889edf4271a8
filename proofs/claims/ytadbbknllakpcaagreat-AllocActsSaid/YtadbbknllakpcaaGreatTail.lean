/- A region that draws its order: when the operations that may turn memory are done, the rest of it, which only reads, goes in the order of the text. No program in sight. -/
import Derived.Test.YtadbbknllakpcaaGreatLib
import Derived.RegionTactic
import Derived.Deep.Quiet
import Derived.BigQuiet
namespace Go.Proofs.YtadbbknllakpcaaGreat
open Go.RowKit
set_option linter.unusedVariables false

theorem wpAny_tail {P : Program} {md : Region.Mode} {ops : Array Oper} {Q : Exit → Act → World → Prop} (k : Nat) {fuel : Nat} {listed : Array Bool} {a : Act} {w : World} (hs : Region.noSelect ops = true) (hf : fuel = (ops.toList.drop k).length)
    (hB : Region.lexFrom md ops (ops.toList.drop k).length k listed = true)
    (h : wpQuiet P ops (fun w' => ∃ n, w' = w.drewN n) (fun a' => ∀ w', (∃ n, w' = w.drewN n) → Q .normal a' w') (ops.toList.drop k) a) : wpAny P md ops Q fuel listed a w := by
  rw [hf]
  refine wpAny_of_quiet (C := fun w' => ∃ n, w' = w.drewN n) (Q := fun a' => ∀ w', (∃ n, w' = w.drewN n) → Q .normal a' w') (fun _ w' hw' h => h w' hw') _ _ _ _ ⟨0, rfl⟩ ?_
  exact wpAnyQ_lex (C := fun w' => ∃ n, w' = w.drewN n) (md := md) hs (ops.toList.drop k) k listed a (fun j => by rw [List.getElem?_drop, Array.getElem?_toList]) hB h
end Go.Proofs.YtadbbknllakpcaaGreat
