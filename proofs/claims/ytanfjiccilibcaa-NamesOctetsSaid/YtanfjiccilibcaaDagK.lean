/- The steps of a region looked at once each: values, loads, comparisons, calls. No program in sight. -/
import Derived.Test.YtanfjiccilibcaaDag
namespace Go.Proofs.Ytanfjiccilibcaa
open Go.RowKit
set_option linter.unusedVariables false

section
variable {P : Program} {md : Region.Mode} {ops : Array Oper} {F : Act} {J : (Nat → Bool) → World → Prop} {i : Nat} {o : Oper} {r : List Oper}
theorem dag_cons (h : DagStep P md ops F J i o) (hr : DagSteps P md ops F J (i + 1) r) : DagSteps P md ops F J i (o :: r) := ⟨h, hr⟩
theorem dag_nil : DagSteps P md ops F J i [] := trivial
theorem dag_val {v : Value} (hw : Region.wanted o (yielded ops F.tmps) = true) (hp : F.put o.dst v = F) (hx : ∀ (g : Nat → Bool) (w : World), J g w → (execOp F.eval o).run P w = .ok (.value v) w)
    (hJ : ∀ (g : Nat → Bool) (w : World), J g w → J (upd g i) w) : DagStep P md ops F J i o := by
  refine .inl ⟨hw, fun g w h1 h2 h3 => ?_⟩
  unfold Oper.wp
  rw [hx g w h3]
  exact ⟨hp, hJ g w h3⟩
theorem dag_call {f : FuncId} {args : Array Value} {v : Value} (hw : Region.wanted o (yielded ops F.tmps) = true) (hp : F.put o.dst v = F) (hx : ∀ (w : World), (execOp F.eval o).run P w = .ok (.enter f args) w)
    (hJ : ∀ (g : Nat → Bool) (w : World), g i = false → J g w → Calls P f args w fun e w' => e = .returned v ∧ J (upd g i) w') : DagStep P md ops F J i o := by
  refine .inl ⟨hw, fun g w h1 h2 h3 => ?_⟩
  unfold Oper.wp
  rw [hx w]
  refine (hJ g w h1 h3).mono ?_
  rintro e w' ⟨rfl, h⟩
  exact ⟨hp, h⟩
theorem run_load1 {t : TypeId} {d : TypeDesc} {p : Addr} {v : Value} {w : World} (hu : P.underlying t = some d) (hd : (match d with | .struct _ | .array _ _ => false | _ => true) = true) (hc : w.cell? p = some v) : (loadVar t p).run P w = .ok v w := by
  have hagg : (isAgg t).run P w = .ok false w := by
    unfold isAgg
    rw [Sem.run_bind, run_underlying hu w]
    cases d <;> simp_all
  simp [loadVar, Sem.run_bind, hagg, run_load, hc]
theorem dag_load {t : TypeId} {d : TypeDesc} {x : Operand} {p : Addr} {v : Value} (hw : Region.wanted o (yielded ops F.tmps) = true) (hp : F.put o.dst v = F) (ho : o.op = .load t x) (hx : F.eval x = .pointer (some p)) (hu : P.underlying t = some d) (hd : (match d with | .struct _ | .array _ _ => false | _ => true) = true)
    (hc : ∀ (g : Nat → Bool) (w : World), J g w → w.cell? p = some v) (hJ : ∀ (g : Nat → Bool) (w : World), J g w → J (upd g i) w) : DagStep P md ops F J i o := by
  refine dag_val hw hp (fun g w h => ?_) hJ
  unfold execOp
  simp only [ho, hx, Instr.loadAt, Instr.sureAddr, Sem.run_bind, Sem.run_pure, Result.andThen_ok, run_load1 hu hd (hc g w h)]
theorem dag_eq {t t' : TypeId} {x y : Operand} {k : IntKind} {c : Int} (hw : Region.wanted o (yielded ops F.tmps) = true) (hp : F.put o.dst (.bool true) = F) (ho : o.op = .binOp .eql t x y t') (hx : F.eval x = .int k c) (hy : F.eval y = .int k c)
    (hJ : ∀ (g : Nat → Bool) (w : World), J g w → J (upd g i) w) : DagStep P md ops F J i o := by
  refine dag_val hw hp (fun g w h => ?_) hJ
  unfold execOp
  simp only [ho, hx, hy, eqGuard_at_int, Sem.run_bind, Sem.run_pure, Result.andThen_ok]
  simp [binOp, Op.intCmp, go_sem]
theorem dag_call2 {f : FuncId} {args : Array Value} {v : Value} (hw : Region.wanted o (yielded ops F.tmps) = true) (hp : F.put o.dst v = F) (hx : ∀ (w : World), (execOp F.eval o).run P w = .ok (.enter f args) w)
    (hJ : ∀ (g : Nat → Bool) (w : World), g i = false → (∀ e ∈ o.after, Region.binds md e = true → g e.on = true) → J g w → Calls P f args w fun e w' => e = .returned v ∧ J (upd g i) w') : DagStep P md ops F J i o := by
  refine .inl ⟨hw, fun g w h1 h2 h3 => ?_⟩
  unfold Oper.wp
  rw [hx w]
  refine (hJ g w h1 h2 h3).mono ?_
  rintro e w' ⟨rfl, h⟩
  exact ⟨hp, h⟩
end
end Go.Proofs.Ytanfjiccilibcaa
