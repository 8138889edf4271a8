/- The walk of RunsActs over the contracts. -/
import Derived.Test.YtfacpamepkkhgaaRuActsU
import Derived.Test.YtfacpamepkkhgaaRunB
import Derived.Test.YtfacpamepkkhgaaRunR
import Derived.Test.YtfacpamepkkhgaaDag
import Derived.Deep.CutBlock
import Derived.Deep.DeepCutAuto
import Derived.Deep.LoopGhost
namespace Go.Proofs.Ytfacpamepkkhgaa
open Go.RowKit
set_option linter.unusedVariables false

/-- The two, and an act that lies apart from them. -/
structure Trio (w0 wr : World) (L g cap : Nat) (l : List (Nat × Nat)) (R T : Nat) (f : Nat → Bool) (A : Nat) (cs : List Value) : Prop where
  both : Both w0 wr L g cap l R T f
  blk : Blk wr A cs 44
  far : w0.heap.size ≤ A ∧ A ≠ L ∧ A ≠ g ∧ A ≠ R ∧ A ≠ T
theorem Trio.prog {w0 wr w' : World} {L g cap R T A : Nat} {l m : List (Nat × Nat)} {f : Nat → Bool} {cs : List Value} (h : Trio w0 wr L g cap l R T f A cs) (hp : PA wr w' L g l m) : ∃ g' cap', Trio w0 w' L g' cap' m R T f A cs := by
  obtain ⟨f0, f1, f2, f3, f4⟩ := h.far
  have hal := h.blk.lt
  rcases hp with ⟨rfl, hb2⟩ | ⟨g', cap', hl, hg, ho⟩
  · exact ⟨g, cap, h.both.below hb2, h.blk.below hb2, h.far⟩
  · obtain ⟨hb1, hb2⟩ : (∃ g2 cap2, Both w0 w' L g2 cap2 m R T f) ∧ True := ⟨h.both.prog (.inr ⟨g', cap', hl, hg, ho⟩), trivial⟩
    have hb := h.both.base
    have hs := h.both.sep
    have hrl := h.both.ref.lt
    have hbs := h.both.bel.size
    refine ⟨g', cap', ⟨hl, h.both.ref.only ho (fun hh => ?_) (fun hh => ?_), ?_, ?_, bel_only h.both.bel ho (Nat.le_refl _) (fun i hi => ?_)⟩, h.blk.only ho (fun hh => ?_), ?_⟩
    · unfold LandS at hh; omega
    · unfold LandS at hh; omega
    · omega
    · omega
    · unfold LandS at hi; omega
    · unfold LandS at hh; omega
    · omega
theorem Trio.doc {w0 wr w' : World} {L g cap R T A : Nat} {l : List (Nat × Nat)} {f f' : Nat → Bool} {cs : List Value} (h : Trio w0 wr L g cap l R T f A cs) (hp : RA wr w' T f f') : Trio w0 w' L g cap l R T f' A cs := by
  refine ⟨h.both.doc hp, ?_, h.far⟩
  obtain ⟨f0, f1, f2, f3, f4⟩ := h.far
  rcases hp with ⟨rfl, hb2⟩ | ⟨hk, ho⟩
  · exact h.blk.below hb2
  · exact h.blk.only ho (by omega)
theorem Trio.drew {w0 wr : World} {L g cap R T A : Nat} {l : List (Nat × Nat)} {f : Nat → Bool} {cs : List Value} (h : Trio w0 wr L g cap l R T f A cs) : Trio w0 wr.drew L g cap l R T f A cs :=
  ⟨h.both.below (Below.refl _ _).drew, h.blk.below (Below.refl _ _).drew, h.far⟩
theorem Trio.c0 {w0 wr : World} {L g cap R T A : Nat} {l : List (Nat × Nat)} {f : Nat → Bool} {a b c : Value} (h : Trio w0 wr L g cap l R T f A [a, b, c]) : wr.cell? ⟨A, 0, none⟩ = some a := by have := h.blk.cell 0; simpa using this
theorem Trio.c1 {w0 wr : World} {L g cap R T A : Nat} {l : List (Nat × Nat)} {f : Nat → Bool} {a b c : Value} (h : Trio w0 wr L g cap l R T f A [a, b, c]) : wr.cell? ⟨A, 1, none⟩ = some b := by have := h.blk.cell 1; simpa using this
theorem Trio.c2 {w0 wr : World} {L g cap R T A : Nat} {l : List (Nat × Nat)} {f : Nat → Bool} {a b c : Value} (h : Trio w0 wr L g cap l R T f A [a, b, c]) : wr.cell? ⟨A, 2, none⟩ = some c := by have := h.blk.cell 2; simpa using this

theorem rel_first : RelF [(1, 4095)] bit0 := by
  refine ⟨canon_one (by omega) (by omega) (by omega), rfl, fun j => ?_⟩
  rw [fr_one]
  unfold bit0
  constructor
  · intro h; exact ⟨h.1, h.2, decide_eq_false (by omega)⟩
  · intro h; exact ⟨h.1, h.2.1⟩
theorem frN_take_le (l : List (Nat × Nat)) (t : Nat) : frN (l.take t) ≤ frN l := by
  have : frN l = frN (l.take t) + frN (l.drop t) := by rw [← frN_append, List.take_append_drop]
  omega

section
variable {P : Program} {md : Region.Mode} {ops : Array Oper} {F : Act} {J : (Nat → Bool) → World → Prop} {i : Nat} {o : Oper} {r : List Oper}
theorem dag_cons (h : DagStep P md ops F J i o) (hr : DagSteps P md ops F J (i + 1) r) : DagSteps P md ops F J i (o :: r) := ⟨h, hr⟩
theorem dag_nil : DagSteps P md ops F J i [] := trivial
theorem dag_val {v : Value} (hw : Region.wanted o (yielded ops F.tmps) = true) (hp : F.put o.dst v = F) (hx : ∀ (g : Nat → Bool) (w : World), J g w → (execOp F.eval o).run P w = .ok (.value v) w)
    (hJ : ∀ (g : Nat → Bool) (w : World), J g w → J (upd g i) w) : DagStep P md ops F J i o := by
  refine .inl ⟨hw, fun g w h1 h2 h3 => ?_⟩
  unfold Oper.wp
  rw [hx g w h3]
  exact ⟨hp, hJ g w h3⟩
theorem dag_call {f : FuncId} {args : Array Value} {v : Value} (hw : Region.wanted o (yielded ops F.tmps) = true) (hp : F.put o.dst v = F) (hx : ∀ (w : World), (execOp F.eval o).run P w = .ok (.enter f args) w)
    (hJ : ∀ (g : Nat → Bool) (w : World), g i = false → J g w → Calls P f args w fun e w' => e = .returned v ∧ J (upd g i) w') : DagStep P md ops F J i o := by
  refine .inl ⟨hw, fun g w h1 h2 h3 => ?_⟩
  unfold Oper.wp
  rw [hx w]
  refine (hJ g w h1 h3).mono ?_
  rintro e w' ⟨rfl, h⟩
  exact ⟨hp, h⟩
theorem run_load1 {t : TypeId} {d : TypeDesc} {p : Addr} {v : Value} {w : World} (hu : P.underlying t = some d) (hd : (match d with | .struct _ | .array _ _ => false | _ => true) = true) (hc : w.cell? p = some v) : (loadVar t p).run P w = .ok v w := by
  have hagg : (isAgg t).run P w = .ok false w := by
    unfold isAgg
    rw [Sem.run_bind, run_underlying hu w]
    cases d <;> simp_all
  simp [loadVar, Sem.run_bind, hagg, run_load, hc]
theorem dag_load {t : TypeId} {d : TypeDesc} {x : Operand} {p : Addr} {v : Value} (hw : Region.wanted o (yielded ops F.tmps) = true) (hp : F.put o.dst v = F) (ho : o.op = .load t x) (hx : F.eval x = .pointer (some p)) (hu : P.underlying t = some d) (hd : (match d with | .struct _ | .array _ _ => false | _ => true) = true)
    (hc : ∀ (g : Nat → Bool) (w : World), J g w → w.cell? p = some v) (hJ : ∀ (g : Nat → Bool) (w : World), J g w → J (upd g i) w) : DagStep P md ops F J i o := by
  refine dag_val hw hp (fun g w h => ?_) hJ
  unfold execOp
  simp only [ho, hx, Instr.loadAt, Instr.sureAddr, Sem.run_bind, Sem.run_pure, Result.andThen_ok, run_load1 hu hd (hc g w h)]
theorem dag_eq {t t' : TypeId} {x y : Operand} {k : IntKind} {c : Int} (hw : Region.wanted o (yielded ops F.tmps) = true) (hp : F.put o.dst (.bool true) = F) (ho : o.op = .binOp .eql t x y t') (hx : F.eval x = .int k c) (hy : F.eval y = .int k c)
    (hJ : ∀ (g : Nat → Bool) (w : World), J g w → J (upd g i) w) : DagStep P md ops F J i o := by
  refine dag_val hw hp (fun g w h => ?_) hJ
  unfold execOp
  simp only [ho, hx, hy, eqGuard_at_int, Sem.run_bind, Sem.run_pure, Result.andThen_ok]
  simp [binOp, Op.intCmp, go_sem]
end
end Go.Proofs.Ytfacpamepkkhgaa
