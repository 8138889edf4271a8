/- The walk of the document's Put of a span. -/
import Derived.Test.YtakcdkcikopoiaaSpOP
import Derived.Test.YtakcdkcikopoiaaDagX
namespace Go.Proofs.Ytakcdkcikopoiaa
open Go.RowKit
set_option linter.unusedVariables false

section
variable {P : Program} {a : Act} {w : World} {o : Oper}
theorem xo_field {s : TypeId} {x : Operand} {k : Nat} {p p' : Addr} (ho : o.op = .fieldAddr s x k) (hx : a.eval x = .pointer (some p)) (hr : (Instr.fieldAt s (.pointer (some p)) k).run P w = .ok (.pointer (some p')) w) : (execOp a.eval o).run P w = .ok (.value (.pointer (some p'))) w := by
  unfold execOp
  simp only [ho, hx, Sem.run_bind, hr, Result.andThen_ok, Sem.run_pure]
theorem xo_load {t : TypeId} {d : TypeDesc} {x : Operand} {p : Addr} {v : Value} (ho : o.op = .load t x) (hx : a.eval x = .pointer (some p)) (hu : P.underlying t = some d) (hd : (match d with | .struct _ | .array _ _ => false | _ => true) = true) (hc : w.cell? p = some v) : (execOp a.eval o).run P w = .ok (.value v) w := by
  unfold execOp
  simp only [ho, hx, Instr.loadAt, Instr.sureAddr, Sem.run_bind, Sem.run_pure, Result.andThen_ok, run_load1 hu hd hc]
theorem xo_call2 {f : FuncId} {x : Operand} {v c : Value} {ts : Array TypeId} (ho : o.op = .call { callee := .value (.func f), args := #[x, .const c], argTypes := ts }) (hx : a.eval x = v) (hr : (callFunc f #[v, c]).run P w = .ok (.enter f #[v, c]) w) : (execOp a.eval o).run P w = .ok (.enter f #[v, c]) w := by
  have h1 : a.eval (.const c) = c := rfl
  have h2 : a.eval (.func f) = .func (.func f) #[] #[] := rfl
  unfold execOp
  simp [ho, resolve, Deferred.ofValue, invoke, hx, h1, h2, hr]
theorem xo_conv {s d : TypeId} {x : Operand} {v u : Value} (ho : o.op = .convert s d x) (hx : a.eval x = v) (hr : (convert s d v).run P w = .ok u w) : (execOp a.eval o).run P w = .ok (.value u) w := by
  unfold execOp
  simp only [ho, hx, Sem.run_bind, hr, Result.andThen_ok, Sem.run_pure]
theorem xo_add {t t' : TypeId} {x y : Operand} {s u : ByteArray} (ho : o.op = .binOp .add t x y t') (hx : a.eval x = .string s) (hy : a.eval y = .string u) (hs : s.size + u.size ≤ 1000000) : (execOp a.eval o).run P w = .ok (.value (.string (s ++ u))) w := by
  have hb : (binOp .add t (.string s) (.string u)).run P w = .ok (.string (s ++ u)) w := by
    have : ¬ ((s.size + u.size : Nat) : Int) > IntKind.i64.max := by simp; omega
    simp only [binOp, Op.stringOp]
    rw [if_neg this]
    rfl
  unfold execOp
  simp only [ho, hx, hy, eqGuard_add, Sem.run_bind, Sem.run_pure, hb, Result.andThen_ok]
theorem xo_assign {x : Operand} {v : Value} (ho : o.op = .assign x) (hx : a.eval x = v) : (execOp a.eval o).run P w = .ok (.value v) w := by
  unfold execOp
  simp only [ho, hx, Sem.run_pure]
end
theorem x_fin {P : Program} {a : Act} {w : World} {o : Oper} {v : Value} {J : Value → World → Prop} (hx : (execOp a.eval o).run P w = .ok (.value v) w) (hJ : J v w) : o.wp P a w (fun a' w' => ∃ v, a' = a.put o.dst v ∧ J v w') (fun _ _ _ => False) := by
  unfold Oper.wp
  rw [hx]
  exact ⟨_, rfl, hJ⟩
theorem x_enter {P : Program} {a : Act} {w : World} {o : Oper} {f : FuncId} {args : Array Value} {J : Value → World → Prop} (hx : (execOp a.eval o).run P w = .ok (.enter f args) w) (hJ : Calls P f args w fun e w' => ∃ v, e = .returned v ∧ J v w') : o.wp P a w (fun a' w' => ∃ v, a' = a.put o.dst v ∧ J v w') (fun _ _ _ => False) := by
  unfold Oper.wp
  rw [hx]
  refine hJ.mono ?_
  rintro e w' ⟨v, rfl, h⟩
  exact ⟨v, rfl, h⟩
theorem strOf_append (a b : List Int) : strOfNums a ++ strOfNums b = strOfNums (a ++ b) := by
  unfold strOfNums
  apply ByteArray.ext
  simp
/-- What each operation has yielded. -/
def rok (w : World) (pg ps cl : Int) (w' : World) : Nat → Value → Prop
  | 0, v => v = .pointer (some ⟨w.heap.size, 2, none⟩)
  | 1, v => v = .int .i64 cl
  | 2, v => w'.ownsRow w.heap.size 5 1 v 1 (octV (oc.layL cl 1))
  | 3, v => v = .string (strOfNums (oc.layL cl 1))
  | 4, v => v = .pointer (some ⟨w.heap.size, 0, none⟩)
  | 5, v => v = .int .i64 pg
  | 6, v => w'.ownsRow w.heap.size 5 1 v 2 (octV (oc.layL pg 2))
  | 7, v => v = .string (strOfNums (oc.layL pg 2))
  | 8, v => v = .string (strOfNums (oc.layL cl 1 ++ oc.layL pg 2))
  | 9, v => v = .pointer (some ⟨w.heap.size, 1, none⟩)
  | 10, v => v = .int .i64 ps
  | 11, v => w'.ownsRow w.heap.size 5 1 v 2 (octV (oc.layL ps 2))
  | 12, v => v = .string (strOfNums (oc.layL ps 2))
  | 13, v => v = .string (strOfNums (oc.layL cl 1 ++ oc.layL pg 2 ++ oc.layL ps 2))
  | 14, v => v = .string (strOfNums (oc.layL cl 1 ++ oc.layL pg 2 ++ oc.layL ps 2))
  | _, _ => True
theorem rok_below {w w' w'' : World} {pg ps cl : Int} (hb : Below w'.heap.size w' w'') {j : Nat} {v : Value} (h : rok w pg ps cl w' j v) : rok w pg ps cl w'' j v := by
  match j, h with
  | 0, h | 1, h | 3, h | 4, h | 5, h | 7, h | 8, h | 9, h | 10, h | 12, h | 13, h | 14, h => exact h
  | 2, h | 6, h | 11, h => exact ownsRow_below h hb
  | j + 15, h => exact trivial
def RPutJ (w : World) (pg ps cl : Int) (A : Option Addr) (cap : Nat) (rc : Nat → Option Value) (w' : World) : Prop :=
  SpB w' w.heap.size pg ps cl A 1 cap ∧ Below w.heap.size w w' ∧ ∀ j v, rc j = some v → rok w pg ps cl w' j v
theorem RPutJ.same {w w' : World} {pg ps cl : Int} {A : Option Addr} {cap : Nat} {rc : Nat → Option Value} (h : RPutJ w pg ps cl A cap rc w') {i : Nat} {v : Value} (hv : rok w pg ps cl w' i v) : RPutJ w pg ps cl A cap (setR rc i v) w' := by
  refine ⟨h.1, h.2.1, fun j u hu => ?_⟩
  by_cases e : j = i
  · subst e; rw [setR_same] at hu; cases hu; exact hv
  · rw [setR_other _ _ e] at hu; exact h.2.2 j u hu
theorem RPutJ.below {w w' w'' : World} {pg ps cl : Int} {A : Option Addr} {cap : Nat} {rc : Nat → Option Value} (h : RPutJ w pg ps cl A cap rc w') (hb : Below w'.heap.size w' w'') : RPutJ w pg ps cl A cap rc w'' :=
  ⟨h.1.below hb, bel_next h.2.1 hb (Nat.le_refl _), fun j v hv => rok_below hb (h.2.2 j v hv)⟩
theorem some_of {α : Type} {o : Option α} (h : o.isSome = true) : ∃ v, o = some v := by cases o with | none => cases h | some v => exact ⟨v, rfl⟩
set_option maxRecDepth 8000 in
set_option maxHeartbeats 8000000 in
theorem rput15_calls (pg ps cl : Int) (A : Option Addr) (cap : Nat) (f : Nat → Bool) (w : World) (h1 : I64 pg) (h2 : I64 ps) (h3 : I64 cl) (h : WordsAt w A 1 f) :
    Calls Try.prog 25 #[spV pg ps cl A 1 cap] w fun e w' => e = .returned (.string (strOfNums (putO pg ps cl f))) ∧ Below w.heap.size w w' := by
  obtain ⟨w1, hw1, hS, hB⟩ := one_span w pg ps cl A 1 cap
  have HS1 := Lib.hid hS
  have HB1 := Lib.hid hB
  obtain ⟨bb, o, rfl, hbb, hcell⟩ := (h.1).resolve_left (by omega)
  have cw := hcell 0 _ (wdV_at 1 f 0 (by omega))
  have HCw := Lib.hid cw
  clear hS hB h hcell cw
  unfold spV
  go_enter Try.func25, Try.ntmps25
  go_wp2_with fail
  clear hw1
  refine wp_dagX (RPutJ w pg ps cl (some ⟨bb, o, none⟩) cap) (by kernel_rfl) (by kernel_rfl) (by kernel_rfl) ⟨HS1.out, HB1.out.drew, fun j v h => by cases h⟩ ?_ ?_
  case refine_1 =>
    refine xcons (fun rc a w' hrn hd hF hJ => ⟨rfl, ?_⟩) ?_
    case refine_1 =>
      exact x_fin (xo_field (p := ⟨w.heap.size, 0, none⟩) (p' := ⟨w.heap.size, 2, none⟩) rfl ((hF.old (t := 1) (by kernel_rfl)).trans rfl) (by kernel_rfl)) (hJ.same rfl)
    refine xcons (fun rc a w' hrn hd hF hJ => ⟨rfl, ?_⟩) ?_
    case refine_1 =>
      obtain ⟨v0, e0⟩ := some_of (hd { on := 0, ground := Ground.data } (by simp) rfl)
      have k0 := hJ.2.2 0 v0 e0
      subst k0
      exact x_fin (xo_load (t := 3) (p := ⟨w.heap.size, 2, none⟩) rfl (hF.slot (t := 5) (hv := e0) (hj := rfl) (ht := rfl) (hs := of_decide_eq_true (by kernel_rfl))) Try.underlying3 rfl hJ.1.cells.2.2.1) (hJ.same rfl)
    refine xcons (fun rc a w' hrn hd hF hJ => ⟨rfl, ?_⟩) ?_
    case refine_1 =>
      obtain ⟨v0, e0⟩ := some_of (hd { on := 1, ground := Ground.data } (by simp) rfl)
      have k0 := hJ.2.2 1 v0 e0
      subst k0
      refine x_enter (xo_call2 (f := 52) rfl (hF.slot (t := 6) (hv := e0) (hj := rfl) (ht := rfl) (hs := of_decide_eq_true (by kernel_rfl))) (by kernel_rfl)) ?_
      refine (oc.rlay_calls cl 1 w').mono ?_
      rintro e w2 ⟨v, rfl, hown, hb⟩
      exact ⟨v, rfl, (hJ.below hb).same (show rok w pg ps cl w2 2 v from ownsRow_base hown hJ.2.1.size)⟩
    refine xcons (fun rc a w' hrn hd hF hJ => ⟨rfl, ?_⟩) ?_
    case refine_1 =>
      obtain ⟨v0, e0⟩ := some_of (hd { on := 2, ground := Ground.data } (by simp) rfl)
      have k0 := hJ.2.2 2 v0 e0
      exact x_fin (xo_conv rfl (hF.slot (t := 7) (hv := e0) (hj := rfl) (ht := rfl) (hs := of_decide_eq_true (by kernel_rfl))) (run_string_own k0 51 9 Try.underlying51 Try.underlying5 Try.underlying9)) (hJ.same rfl)
    refine xcons (fun rc a w' hrn hd hF hJ => ⟨rfl, ?_⟩) ?_
    case refine_1 =>
      exact x_fin (xo_field (p := ⟨w.heap.size, 0, none⟩) (p' := ⟨w.heap.size, 0, none⟩) rfl ((hF.old (t := 1) (by kernel_rfl)).trans rfl) (by kernel_rfl)) (hJ.same rfl)
    refine xcons (fun rc a w' hrn hd hF hJ => ⟨rfl, ?_⟩) ?_
    case refine_1 =>
      obtain ⟨v0, e0⟩ := some_of (hd { on := 4, ground := Ground.data } (by simp) rfl)
      have k0 := hJ.2.2 4 v0 e0
      subst k0
      exact x_fin (xo_load (t := 3) (p := ⟨w.heap.size, 0, none⟩) rfl (hF.slot (t := 9) (hv := e0) (hj := rfl) (ht := rfl) (hs := of_decide_eq_true (by kernel_rfl))) Try.underlying3 rfl hJ.1.cells.1) (hJ.same rfl)
    refine xcons (fun rc a w' hrn hd hF hJ => ⟨rfl, ?_⟩) ?_
    case refine_1 =>
      obtain ⟨v0, e0⟩ := some_of (hd { on := 5, ground := Ground.data } (by simp) rfl)
      have k0 := hJ.2.2 5 v0 e0
      subst k0
      refine x_enter (xo_call2 (f := 52) rfl (hF.slot (t := 10) (hv := e0) (hj := rfl) (ht := rfl) (hs := of_decide_eq_true (by kernel_rfl))) (by kernel_rfl)) ?_
      refine (oc.rlay_calls pg 2 w').mono ?_
      rintro e w2 ⟨v, rfl, hown, hb⟩
      exact ⟨v, rfl, (hJ.below hb).same (show rok w pg ps cl w2 6 v from ownsRow_base hown hJ.2.1.size)⟩
    refine xcons (fun rc a w' hrn hd hF hJ => ⟨rfl, ?_⟩) ?_
    case refine_1 =>
      obtain ⟨v0, e0⟩ := some_of (hd { on := 6, ground := Ground.data } (by simp) rfl)
      have k0 := hJ.2.2 6 v0 e0
      exact x_fin (xo_conv rfl (hF.slot (t := 11) (hv := e0) (hj := rfl) (ht := rfl) (hs := of_decide_eq_true (by kernel_rfl))) (run_string_own k0 51 9 Try.underlying51 Try.underlying5 Try.underlying9)) (hJ.same rfl)
    refine xcons (fun rc a w' hrn hd hF hJ => ⟨rfl, ?_⟩) ?_
    case refine_1 =>
      obtain ⟨v0, e0⟩ := some_of (hd { on := 3, ground := Ground.data } (by simp) rfl)
      have k0 := hJ.2.2 3 v0 e0
      obtain ⟨v1, e1⟩ := some_of (hd { on := 7, ground := Ground.data } (by simp) rfl)
      have k1 := hJ.2.2 7 v1 e1
      subst k0 k1
      exact x_fin (xo_add rfl (hF.slot (t := 8) (hv := e0) (hj := rfl) (ht := rfl) (hs := of_decide_eq_true (by kernel_rfl))) (hF.slot (t := 12) (hv := e1) (hj := rfl) (ht := rfl) (hs := of_decide_eq_true (by kernel_rfl))) (by simp [strOfNums_size, oc.layL_length])) (hJ.same (congrArg Value.string (strOf_append _ _)))
    refine xcons (fun rc a w' hrn hd hF hJ => ⟨rfl, ?_⟩) ?_
    case refine_1 =>
      exact x_fin (xo_field (p := ⟨w.heap.size, 0, none⟩) (p' := ⟨w.heap.size, 1, none⟩) rfl ((hF.old (t := 1) (by kernel_rfl)).trans rfl) (by kernel_rfl)) (hJ.same rfl)
    refine xcons (fun rc a w' hrn hd hF hJ => ⟨rfl, ?_⟩) ?_
    case refine_1 =>
      obtain ⟨v0, e0⟩ := some_of (hd { on := 9, ground := Ground.data } (by simp) rfl)
      have k0 := hJ.2.2 9 v0 e0
      subst k0
      exact x_fin (xo_load (t := 3) (p := ⟨w.heap.size, 1, none⟩) rfl (hF.slot (t := 14) (hv := e0) (hj := rfl) (ht := rfl) (hs := of_decide_eq_true (by kernel_rfl))) Try.underlying3 rfl hJ.1.cells.2.1) (hJ.same rfl)
    refine xcons (fun rc a w' hrn hd hF hJ => ⟨rfl, ?_⟩) ?_
    case refine_1 =>
      obtain ⟨v0, e0⟩ := some_of (hd { on := 10, ground := Ground.data } (by simp) rfl)
      have k0 := hJ.2.2 10 v0 e0
      subst k0
      refine x_enter (xo_call2 (f := 52) rfl (hF.slot (t := 15) (hv := e0) (hj := rfl) (ht := rfl) (hs := of_decide_eq_true (by kernel_rfl))) (by kernel_rfl)) ?_
      refine (oc.rlay_calls ps 2 w').mono ?_
      rintro e w2 ⟨v, rfl, hown, hb⟩
      exact ⟨v, rfl, (hJ.below hb).same (show rok w pg ps cl w2 11 v from ownsRow_base hown hJ.2.1.size)⟩
    refine xcons (fun rc a w' hrn hd hF hJ => ⟨rfl, ?_⟩) ?_
    case refine_1 =>
      obtain ⟨v0, e0⟩ := some_of (hd { on := 11, ground := Ground.data } (by simp) rfl)
      have k0 := hJ.2.2 11 v0 e0
      exact x_fin (xo_conv rfl (hF.slot (t := 16) (hv := e0) (hj := rfl) (ht := rfl) (hs := of_decide_eq_true (by kernel_rfl))) (run_string_own k0 51 9 Try.underlying51 Try.underlying5 Try.underlying9)) (hJ.same rfl)
    refine xcons (fun rc a w' hrn hd hF hJ => ⟨rfl, ?_⟩) ?_
    case refine_1 =>
      obtain ⟨v0, e0⟩ := some_of (hd { on := 8, ground := Ground.data } (by simp) rfl)
      have k0 := hJ.2.2 8 v0 e0
      obtain ⟨v1, e1⟩ := some_of (hd { on := 12, ground := Ground.data } (by simp) rfl)
      have k1 := hJ.2.2 12 v1 e1
      subst k0 k1
      exact x_fin (xo_add rfl (hF.slot (t := 13) (hv := e0) (hj := rfl) (ht := rfl) (hs := of_decide_eq_true (by kernel_rfl))) (hF.slot (t := 17) (hv := e1) (hj := rfl) (ht := rfl) (hs := of_decide_eq_true (by kernel_rfl))) (by simp [strOfNums_size, oc.layL_length])) (hJ.same (congrArg Value.string (strOf_append _ _)))
    refine xcons (fun rc a w' hrn hd hF hJ => ⟨rfl, ?_⟩) ?_
    case refine_1 =>
      obtain ⟨v0, e0⟩ := some_of (hd { on := 13, ground := Ground.data } (by simp) rfl)
      have k0 := hJ.2.2 13 v0 e0
      subst k0
      exact x_fin (xo_assign rfl (hF.slot (t := 18) (hv := e0) (hj := rfl) (ht := rfl) (hs := of_decide_eq_true (by kernel_rfl)))) (hJ.same rfl)
    exact xnil
  case refine_2 =>
    intro rc a w5 hall hF hJ
    obtain ⟨x0, e0⟩ := some_of (hall 0 (by decide))
    obtain ⟨x1, e1⟩ := some_of (hall 1 (by decide))
    obtain ⟨x2, e2⟩ := some_of (hall 2 (by decide))
    obtain ⟨x3, e3⟩ := some_of (hall 3 (by decide))
    obtain ⟨x4, e4⟩ := some_of (hall 4 (by decide))
    obtain ⟨x5, e5⟩ := some_of (hall 5 (by decide))
    obtain ⟨x6, e6⟩ := some_of (hall 6 (by decide))
    obtain ⟨x7, e7⟩ := some_of (hall 7 (by decide))
    obtain ⟨x8, e8⟩ := some_of (hall 8 (by decide))
    obtain ⟨x9, e9⟩ := some_of (hall 9 (by decide))
    obtain ⟨x10, e10⟩ := some_of (hall 10 (by decide))
    obtain ⟨x11, e11⟩ := some_of (hall 11 (by decide))
    obtain ⟨x12, e12⟩ := some_of (hall 12 (by decide))
    obtain ⟨x13, e13⟩ := some_of (hall 13 (by decide))
    obtain ⟨x14, e14⟩ := some_of (hall 14 (by decide))
    obtain rfl : x0 = .pointer (some ⟨w.heap.size, 2, none⟩) := hJ.2.2 0 _ e0
    obtain rfl : x1 = .int .i64 cl := hJ.2.2 1 _ e1
    obtain rfl : x3 = .string (strOfNums (oc.layL cl 1)) := hJ.2.2 3 _ e3
    obtain rfl : x4 = .pointer (some ⟨w.heap.size, 0, none⟩) := hJ.2.2 4 _ e4
    obtain rfl : x5 = .int .i64 pg := hJ.2.2 5 _ e5
    obtain rfl : x7 = .string (strOfNums (oc.layL pg 2)) := hJ.2.2 7 _ e7
    obtain rfl : x8 = .string (strOfNums (oc.layL cl 1 ++ oc.layL pg 2)) := hJ.2.2 8 _ e8
    obtain rfl : x9 = .pointer (some ⟨w.heap.size, 1, none⟩) := hJ.2.2 9 _ e9
    obtain rfl : x10 = .int .i64 ps := hJ.2.2 10 _ e10
    obtain rfl : x12 = .string (strOfNums (oc.layL ps 2)) := hJ.2.2 12 _ e12
    obtain rfl : x13 = .string (strOfNums (oc.layL cl 1 ++ oc.layL pg 2 ++ oc.layL ps 2)) := hJ.2.2 13 _ e13
    obtain rfl : x14 = .string (strOfNums (oc.layL cl 1 ++ oc.layL pg 2 ++ oc.layL ps 2)) := hJ.2.2 14 _ e14
    have hfr := hF.all [(5, .pointer (some ⟨w.heap.size, 2, none⟩)), (6, .int .i64 cl), (7, x2), (8, .string (strOfNums (oc.layL cl 1))), (9, .pointer (some ⟨w.heap.size, 0, none⟩)), (10, .int .i64 pg), (11, x6), (12, .string (strOfNums (oc.layL pg 2))), (13, .string (strOfNums (oc.layL cl 1 ++ oc.layL pg 2))), (14, .pointer (some ⟨w.heap.size, 1, none⟩)), (15, .int .i64 ps), (16, x11), (17, .string (strOfNums (oc.layL ps 2))), (18, .string (strOfNums (oc.layL cl 1 ++ oc.layL pg 2 ++ oc.layL ps 2))), (3, .string (strOfNums (oc.layL cl 1 ++ oc.layL pg 2 ++ oc.layL ps 2)))] (by kernel_rfl) (List.forall_mem_cons.2 ⟨by kernel_rfl, (List.forall_mem_cons.2 ⟨by kernel_rfl, (List.forall_mem_cons.2 ⟨by kernel_rfl, (List.forall_mem_cons.2 ⟨by kernel_rfl, (List.forall_mem_cons.2 ⟨by kernel_rfl, (List.forall_mem_cons.2 ⟨by kernel_rfl, (List.forall_mem_cons.2 ⟨by kernel_rfl, (List.forall_mem_cons.2 ⟨by kernel_rfl, (List.forall_mem_cons.2 ⟨by kernel_rfl, (List.forall_mem_cons.2 ⟨by kernel_rfl, (List.forall_mem_cons.2 ⟨by kernel_rfl, (List.forall_mem_cons.2 ⟨by kernel_rfl, (List.forall_mem_cons.2 ⟨by kernel_rfl, (List.forall_mem_cons.2 ⟨by kernel_rfl, (List.forall_mem_cons.2 ⟨by kernel_rfl, (fun p hp => by cases hp)⟩)⟩)⟩)⟩)⟩)⟩)⟩)⟩)⟩)⟩)⟩)⟩)⟩)⟩)⟩) (List.forall_mem_cons.2 ⟨⟨0, _, rfl, rfl, e0, of_decide_eq_true (by kernel_rfl)⟩, (List.forall_mem_cons.2 ⟨⟨1, _, rfl, rfl, e1, of_decide_eq_true (by kernel_rfl)⟩, (List.forall_mem_cons.2 ⟨⟨2, _, rfl, rfl, e2, of_decide_eq_true (by kernel_rfl)⟩, (List.forall_mem_cons.2 ⟨⟨3, _, rfl, rfl, e3, of_decide_eq_true (by kernel_rfl)⟩, (List.forall_mem_cons.2 ⟨⟨4, _, rfl, rfl, e4, of_decide_eq_true (by kernel_rfl)⟩, (List.forall_mem_cons.2 ⟨⟨5, _, rfl, rfl, e5, of_decide_eq_true (by kernel_rfl)⟩, (List.forall_mem_cons.2 ⟨⟨6, _, rfl, rfl, e6, of_decide_eq_true (by kernel_rfl)⟩, (List.forall_mem_cons.2 ⟨⟨7, _, rfl, rfl, e7, of_decide_eq_true (by kernel_rfl)⟩, (List.forall_mem_cons.2 ⟨⟨8, _, rfl, rfl, e8, of_decide_eq_true (by kernel_rfl)⟩, (List.forall_mem_cons.2 ⟨⟨9, _, rfl, rfl, e9, of_decide_eq_true (by kernel_rfl)⟩, (List.forall_mem_cons.2 ⟨⟨10, _, rfl, rfl, e10, of_decide_eq_true (by kernel_rfl)⟩, (List.forall_mem_cons.2 ⟨⟨11, _, rfl, rfl, e11, of_decide_eq_true (by kernel_rfl)⟩, (List.forall_mem_cons.2 ⟨⟨12, _, rfl, rfl, e12, of_decide_eq_true (by kernel_rfl)⟩, (List.forall_mem_cons.2 ⟨⟨13, _, rfl, rfl, e13, of_decide_eq_true (by kernel_rfl)⟩, (List.forall_mem_cons.2 ⟨⟨14, _, rfl, rfl, e14, of_decide_eq_true (by kernel_rfl)⟩, (fun p hp => by cases hp)⟩)⟩)⟩)⟩)⟩)⟩)⟩)⟩)⟩)⟩)⟩)⟩)⟩)⟩)⟩)
    subst hfr
    have HS5 := Lib.hid hJ.1
    have HB5 := Lib.hid hJ.2.1
    obtain ⟨s0, s1, s2, s3⟩ := hJ.1.cells
    have cx : w5.cell? ⟨bb, o, none⟩ = some (.int .u64 (wd f 0 : Nat)) := (hJ.2.1.cell (p := ⟨bb, o, none⟩) hbb).trans HCw.out
    clear hF hJ hall e0 e1 e2 e3 e4 e5 e6 e7 e8 e9 e10 e11 e12 e13 e14
    simp only [putAll, List.foldl_cons, List.foldl_nil]
    go_wp2_with fail
    go_loopg [3, 4] 1 (fun q s3 s4 wx => (q = 1 ∧ s3 = .string (strOfNums (oc.layL cl 1 ++ oc.layL pg 2 ++ oc.layL ps 2)) ∧ s4 = .int .i64 0 ∧ Hid (Below w.heap.size w wx ∧ SpB wx w.heap.size pg ps cl (some ⟨bb, o, none⟩) 1 cap)) ∨ (q = 0 ∧ s3 = .string (strOfNums (putO pg ps cl f)) ∧ s4 = .int .i64 1 ∧ Hid (Below w.heap.size w wx ∧ SpB wx w.heap.size pg ps cl (some ⟨bb, o, none⟩) 1 cap)))
    case atStart => exact .inl ⟨rfl, by first | rfl | (rw [List.append_assoc]), rfl, Lib.hid ⟨HB5.out, HS5.out⟩⟩
    case round =>
      rcases hrel with ⟨hq, rfl, rfl, hI⟩ | ⟨hq, rfl, rfl, hI⟩
      · obtain ⟨s0, s1, s2, s3⟩ := hI.out.2.cells
        have cx : wr.cell? ⟨bb, o, none⟩ = some (.int .u64 (wd f 0 : Nat)) := (hI.out.1.cell (p := ⟨bb, o, none⟩) hbb).trans HCw.out
        go_wp2_with fail
        refine (oc.rlay_calls (wrap64 ((wd f 0 : Nat) : Int)) 8 _).mono ?_
        rintro e w6 ⟨v, rfl, hown, hb⟩
        have hcv : (convert 51 9 v).run Try.prog w6 = .ok (.string (strOfNums (oc.layL (wrap64 ((wd f 0 : Nat) : Int)) 8))) w6 := run_string_own (n := 8) hown 51 9 Try.underlying51 Try.underlying5 Try.underlying9
        have HN := Lib.hid (show Below w.heap.size w w6 ∧ SpB w6 w.heap.size pg ps cl (some ⟨bb, o, none⟩) 1 cap from ⟨bel_next hI.out.1 hb (Nat.le_refl _), hI.out.2.below hb⟩)
        have HE := Lib.hid (show strOfNums (oc.layL cl 1 ++ oc.layL pg 2 ++ oc.layL ps 2) ++ strOfNums (oc.layL (wrap64 ((wd f 0 : Nat) : Int)) 8) = strOfNums (putO pg ps cl f) from strOf_append _ _)
        have hsz0 : (strOfNums (oc.layL cl 1 ++ oc.layL pg 2 ++ oc.layL ps 2)).size = 5 := by simp [strOfNums_size, oc.layL_length]
        have hsz1 : (strOfNums (oc.layL (wrap64 ((wd f 0 : Nat) : Int)) 8)).size = 8 := by simp [strOfNums_size, oc.layL_length]
        generalize strOfNums (oc.layL cl 1 ++ oc.layL pg 2 ++ oc.layL ps 2) = S0 at *
        generalize strOfNums (oc.layL (wrap64 ((wd f 0 : Nat) : Int)) 8) = S1 at *
        have hso : Op.stringOp .add S0 S1 = pure (Value.string (S0 ++ S1)) := by
          have : ¬ ((S0.size + S1.size : Nat) : Int) > IntKind.i64.max := by rw [hsz0, hsz1]; simp
          simp only [Op.stringOp]
          rw [if_neg this]
        clear hown hb cx hsz0 hsz1
        go_wp2_with (first | (simp only [hcv]) | (simp only [hso]))
        go_roundg 0
        case measure => omega
        case rel => exact .inr ⟨rfl, by rw [HE.out], by first | rfl | go_num, HN⟩
      · obtain ⟨s0, s1, s2, s3⟩ := hI.out.2.cells
        go_wp2
        go_ret
        exact ⟨rfl, hI.out.1⟩
end Go.Proofs.Ytakcdkcikopoiaa
