/- More steps of a region looked at once each: strings, rows, conversions. No program in sight. -/
import Derived.Test.YtanfjiccilibcaaDagK
namespace Go.Proofs.Ytanfjiccilibcaa
open Go.RowKit
set_option linter.unusedVariables false

section
variable {P : Program} {md : Region.Mode} {ops : Array Oper} {F : Act} {J : (Nat → Bool) → World → Prop} {i : Nat} {o : Oper}
/-- A value that may make memory, and may lean on what was done ahead. -/
theorem dag_make {v : Value} (hw : Region.wanted o (yielded ops F.tmps) = true) (hp : F.put o.dst v = F)
    (hx : ∀ (g : Nat → Bool) (w : World), g i = false → (∀ e ∈ o.after, Region.binds md e = true → g e.on = true) → J g w → ∃ w', (execOp F.eval o).run P w = .ok (.value v) w' ∧ J (upd g i) w') : DagStep P md ops F J i o := by
  refine .inl ⟨hw, fun g w h1 h2 h3 => ?_⟩
  obtain ⟨w', hr, hj⟩ := hx g w h1 h2 h3
  unfold Oper.wp
  rw [hr]
  exact ⟨hp, hj⟩
theorem dag_index {t : TypeId} {x ix : Operand} {v1 v2 v : Value} (hw : Region.wanted o (yielded ops F.tmps) = true) (hp : F.put o.dst v = F) (ho : o.op = .indexAddr t x ix) (hx : F.eval x = v1) (hy : F.eval ix = v2) (hr : ∀ w : World, (Instr.indexAt t v1 v2).run P w = .ok v w)
    (hJ : ∀ (g : Nat → Bool) (w : World), J g w → J (upd g i) w) : DagStep P md ops F J i o := by
  refine dag_val hw hp (fun g w h => ?_) hJ
  unfold execOp
  simp only [ho, hx, hy, Sem.run_bind, hr, Result.andThen_ok, Sem.run_pure]
theorem dag_field {s : TypeId} {x : Operand} {k : Nat} {v1 v : Value} (hw : Region.wanted o (yielded ops F.tmps) = true) (hp : F.put o.dst v = F) (ho : o.op = .fieldAddr s x k) (hx : F.eval x = v1) (hr : ∀ w : World, (Instr.fieldAt s v1 k).run P w = .ok v w)
    (hJ : ∀ (g : Nat → Bool) (w : World), J g w → J (upd g i) w) : DagStep P md ops F J i o := by
  refine dag_val hw hp (fun g w h => ?_) hJ
  unfold execOp
  simp only [ho, hx, Sem.run_bind, hr, Result.andThen_ok, Sem.run_pure]
theorem dag_conv {s d : TypeId} {x : Operand} {v u : Value}
    (hw : Region.wanted o (yielded ops F.tmps) = true) (hp : F.put o.dst u = F) (ho : o.op = .convert s d x) (hx : F.eval x = v) (hr : ∀ w : World, (convert s d v).run P w = .ok u w) (hJ : ∀ (g : Nat → Bool) (w : World), J g w → J (upd g i) w) : DagStep P md ops F J i o := by
  refine dag_val hw hp (fun g w h => ?_) hJ
  unfold execOp
  simp only [ho, hx, Sem.run_bind, hr, Result.andThen_ok, Sem.run_pure]
theorem dag_convJ {s d : TypeId} {x : Operand} {v u : Value}
    (hw : Region.wanted o (yielded ops F.tmps) = true) (hp : F.put o.dst u = F) (ho : o.op = .convert s d x) (hx : F.eval x = v) (hr : ∀ (g : Nat → Bool) (w : World), (∀ e ∈ o.after, Region.binds md e = true → g e.on = true) → J g w → (convert s d v).run P w = .ok u w) (hJ : ∀ (g : Nat → Bool) (w : World), J g w → J (upd g i) w) : DagStep P md ops F J i o := by
  refine dag_make hw hp (fun g w h1 h2 h => ⟨w, ?_, hJ g w h⟩)
  unfold execOp
  simp only [ho, hx, Sem.run_bind, hr g w h2 h, Result.andThen_ok, Sem.run_pure]
theorem dag_bin {b : BinOp} {t t' : TypeId} {x y : Operand} {v1 v2 v : Value}
    (hw : Region.wanted o (yielded ops F.tmps) = true) (hp : F.put o.dst v = F) (ho : o.op = .binOp b t x y t') (hx : F.eval x = v1) (hy : F.eval y = v2) (hg : eqGuard b t x y v1 v2 = pure ()) (hr : ∀ w : World, (binOp b t v1 v2).run P w = .ok v w)
    (hJ : ∀ (g : Nat → Bool) (w : World), J g w → J (upd g i) w) : DagStep P md ops F J i o := by
  refine dag_val hw hp (fun g w h => ?_) hJ
  unfold execOp
  simp only [ho, hx, hy, hg, Sem.run_bind, Sem.run_pure, hr, Result.andThen_ok]
theorem dag_loadS {t ty : TypeId} {d : TypeDesc} {x : Operand} {S : Nat} {cs : Array Value}
    (hw : Region.wanted o (yielded ops F.tmps) = true) (hp : F.put o.dst (.agg cs) = F) (ho : o.op = .load t x) (hx : F.eval x = .pointer (some ⟨S, 0, none⟩)) (hu : P.underlying t = some d) (hd : (match d with | .struct _ | .array _ _ => true | _ => false) = true) (hi : (P.info? t).map (·.size) = some cs.size)
    (hc : ∀ (g : Nat → Bool) (w : World), J g w → w.heap[S]? = some (.cells cs ty (0, 0))) (hJ : ∀ (g : Nat → Bool) (w : World), J g w → J (upd g i) w) : DagStep P md ops F J i o := by
  refine dag_val hw hp (fun g w h => ?_) hJ
  unfold execOp
  simp only [ho, hx, Instr.loadAt, Instr.sureAddr, Sem.run_bind, Sem.run_pure, Result.andThen_ok, run_loadVar_row w S ty t cs (0, 0) d (hc g w h) hu hd hi]
theorem dag_eqS {t t' : TypeId} {x y : Operand} {s : ByteArray}
    (hw : Region.wanted o (yielded ops F.tmps) = true) (hp : F.put o.dst (.bool true) = F) (ho : o.op = .binOp .eql t x y t') (hx : F.eval x = .string s) (hy : F.eval y = .string s) (hJ : ∀ (g : Nat → Bool) (w : World), J g w → J (upd g i) w) : DagStep P md ops F J i o := by
  refine dag_val hw hp (fun g w h => ?_) hJ
  unfold execOp
  simp only [ho, hx, hy, eqGuard_at_string, Sem.run_bind, Sem.run_pure, Result.andThen_ok, binOp_string_eql, beq_self_eq_true]
end
theorem run_addS {P : Program} {t : TypeId} {s u : ByteArray} (hs : s.size + u.size ≤ 1000000) (w : World) : (binOp .add t (.string s) (.string u)).run P w = .ok (.string (s ++ u)) w := by
  have : ¬ ((s.size + u.size : Nat) : Int) > IntKind.i64.max := by simp; omega
  simp only [binOp, Op.stringOp]
  rw [if_neg this]
  rfl
end Go.Proofs.Ytanfjiccilibcaa
