/- A region that draws its order, calls and all: when each operation yields one value whenever it is run, it is enough to look at each operation once. No program in sight. -/
import Derived.Test.YtadbbknllakpcaaGreatLib
import Derived.RegionTactic
namespace Go.Proofs.YtadbbknllakpcaaGreat
open Go.RowKit
set_option linter.unusedVariables false

/-- Every operation comes behind those that it waits for, and waits for all whose slots it looks at. -/
def dagOk (md : Region.Mode) (ops : Array Oper) : Bool :=
  (List.range ops.size).all fun i => match ops[i]? with
    | none => true
    | some o => o.after.all (fun e => !Region.binds md e || decide (e.on < i)) &&
      (List.range ops.size).all fun j => match ops[j]? with
        | none => true
        | some oj => match oj.dst with
          | none => true
          | some d => !(o.looksAt ops).contains d || o.after.any (fun e => Region.binds md e && e.on == j)
theorem dagOk_spec {md : Region.Mode} {ops : Array Oper} (h : dagOk md ops = true) {i : Nat} {o : Oper} (hi : ops[i]? = some o) :
    (∀ e ∈ o.after, Region.binds md e = true → e.on < i) ∧ ∀ (j : Nat) (oj : Oper) (d : Tmp), ops[j]? = some oj → oj.dst = some d → d ∈ o.looksAt ops → ∃ e ∈ o.after, Region.binds md e = true ∧ e.on = j := by
  have hlt := (Array.getElem?_eq_some_iff.1 hi).1
  have h1 := List.all_eq_true.1 h i (List.mem_range.2 hlt)
  rw [hi] at h1
  simp only [Bool.and_eq_true] at h1
  refine ⟨fun e he hb => ?_, fun j oj d hj hd hl => ?_⟩
  · have := Array.all_eq_true_iff_forall_mem.1 h1.1 e he
    rw [hb] at this
    simpa using this
  · have h2 := List.all_eq_true.1 h1.2 j (List.mem_range.2 (Array.getElem?_eq_some_iff.1 hj).1)
    rw [hj] at h2
    simp only [hd, Bool.or_eq_true, Bool.not_eq_true'] at h2
    rcases h2 with h2 | h2
    · rw [List.contains_iff_mem.2 hl] at h2; cases h2
    · obtain ⟨e, he, hb⟩ := Array.any_eq_true'.1 h2
      simp only [Bool.and_eq_true, beq_iff_eq] at hb
      exact ⟨e, he, hb.1, hb.2⟩
/-- The frame with these values laid. -/
def putAll (a : Act) (vs : List (Tmp × Value)) : Act := vs.foldl (fun a p => a.put (some p.1) p.2) a
theorem putAll_spec (vs : List (Tmp × Value)) (a : Act) : (putAll a vs).defers = a.defers ∧ (putAll a vs).tmps.size = a.tmps.size ∧ ∀ t, t ∉ vs.map (·.1) → (putAll a vs).tmps[t]? = a.tmps[t]? := by
  induction vs generalizing a with
  | nil => exact ⟨rfl, rfl, fun t _ => rfl⟩
  | cons p vs ih =>
    obtain ⟨h1, h2, h3⟩ := ih (a.put (some p.1) p.2)
    refine ⟨h1, h2.trans (by simp [Act.put]), fun t ht => ?_⟩
    simp only [List.map_cons, List.mem_cons, not_or] at ht
    refine (h3 t ht.2).trans ?_
    simp [Act.put, Array.getElem?_setIfInBounds_ne (Ne.symm ht.1)]
def upd (g : Nat → Bool) (i : Nat) : Nat → Bool := fun k => if k = i then true else g k
/-- What is asked of one operation: it yields its value whenever it is run. -/
def DagStep (P : Program) (md : Region.Mode) (ops : Array Oper) (F : Act) (J : (Nat → Bool) → World → Prop) (i : Nat) (o : Oper) : Prop :=
  (Region.wanted o (yielded ops F.tmps) = true ∧ ∀ (g : Nat → Bool) (w : World), g i = false → (∀ e ∈ o.after, Region.binds md e = true → g e.on = true) → J g w → o.wp P F w (fun a' w' => a' = F ∧ J (upd g i) w') (fun _ _ _ => False)) ∨
  (Region.wanted o (yielded ops F.tmps) = false ∧ F.put o.dst undef = F ∧ ∀ (g : Nat → Bool) (w : World), g i = false → J g w → J (upd g i) w)
def DagSteps (P : Program) (md : Region.Mode) (ops : Array Oper) (F : Act) (J : (Nat → Bool) → World → Prop) : Nat → List Oper → Prop
  | _, [] => True
  | i, o :: r => DagStep P md ops F J i o ∧ DagSteps P md ops F J (i + 1) r
theorem DagSteps.at {P : Program} {md : Region.Mode} {ops : Array Oper} {F : Act} {J : (Nat → Bool) → World → Prop} {l : List Oper} {k : Nat} (h : DagSteps P md ops F J k l) {i : Nat} {o : Oper} (hi : l[i]? = some o) : DagStep P md ops F J (k + i) o := by
  induction l generalizing k i with
  | nil => simp at hi
  | cons x l ih =>
    cases i with
    | zero => simp at hi; subst hi; exact h.1
    | succ i =>
      have := ih h.2 (i := i) (by simpa using hi)
      rw [show k + (i + 1) = k + 1 + i by omega]
      exact this
theorem upon_from {P : Program} {o : Oper} {F a : Act} {J : World → Prop} {K : Act → World → Prop} {Q : Exit → Act → World → Prop} {r : Result Next}
    (h : o.upon P F (fun a' w' => a' = F ∧ J w') (fun _ _ _ => False) r) (hK : ∀ v w', F.put o.dst v = F → J w' → K (a.put o.dst v) w') : o.upon P a K Q r := by
  cases r with
  | ok n w' =>
    cases n <;> simp only [Oper.upon] at h ⊢
    case value u => exact hK _ _ h.1 h.2
    case skip => exact hK _ _ h.1 h.2
    case defer d =>
      exfalso
      have := congrArg (fun x : Act => x.defers.length) h.1
      cases hd : o.dst <;> simp [Act.put, hd] at this
    case enter f args =>
      refine Calls.mono h fun e w'' he => ?_
      cases e with
      | returned u => exact hK _ _ he.1 he.2
      | panicked c => exact he.elim
      | outgrown => exact (by obtain ⟨_, _, h⟩ := he; exact h.elim)
    case row row args => exact Rows.mono h fun u w'' he => hK _ _ he.1 he.2
  | halt x w' => cases x <;> simp only [Oper.upon] at h ⊢
/-- The frame's state when these operations are done. -/
structure DagAt (ops : Array Oper) (a0 F : Act) (listed : Array Bool) (a : Act) : Prop where
  size : listed.size = ops.size
  defers : a.defers = a0.defers
  tmps : a.tmps.size = a0.tmps.size
  done : ∀ (j : Nat) (oj : Oper) (t : Tmp), ops[j]? = some oj → oj.dst = some t → listed.getD j false = true → a.tmps[t]? = F.tmps[t]?
  rest : ∀ t, (∀ (j : Nat) (oj : Oper), ops[j]? = some oj → oj.dst = some t → listed.getD j false = false) → a.tmps[t]? = a0.tmps[t]?
theorem put_same {F : Act} {d : Tmp} {v : Value} (h : F.put (some d) v = F) (a : Act) (hs : a.tmps.size = F.tmps.size) : (a.put (some d) v).tmps[d]? = F.tmps[d]? := by
  have h1 := congrArg (fun x : Act => x.tmps[d]?) h
  simp only [Act.put] at h1
  rw [← h1]
  simp [Act.put, Array.getElem?_setIfInBounds, hs]
theorem DagAt.next {ops : Array Oper} {a0 F : Act} {listed : Array Bool} {a : Act} {i : Nat} {o : Oper} {v : Value} (h : DagAt ops a0 F listed a) (hi : ops[i]? = some o) (hF : F.tmps.size = a0.tmps.size) (hv : F.put o.dst v = F) : DagAt ops a0 F (listed.setIfInBounds i true) (a.put o.dst v) := by
  have hlt := (Array.getElem?_eq_some_iff.1 hi).1
  have hset : ∀ j, j ≠ i → (listed.setIfInBounds i true).getD j false = listed.getD j false := fun j hj => getD_set_ne false (Ne.symm hj)
  have hseti : (listed.setIfInBounds i true).getD i false = true := by simp [h.size, hlt]
  refine ⟨by simp [h.size], ?_, ?_, fun j oj t hj ht hl => ?_, fun t ht => ?_⟩
  · have := h.defers
    cases hd : o.dst <;> simpa [Act.put, hd] using this
  · have := h.tmps
    cases hd : o.dst <;> simpa [Act.put, hd] using this
  · by_cases hji : j = i
    · subst hji
      cases hi.symm.trans hj
      rw [ht] at hv ⊢
      exact put_same hv a (h.tmps.trans hF.symm)
    · rw [hset j hji] at hl
      have h1 := h.done j oj t hj ht hl
      cases hd : o.dst with
      | none => simpa [Act.put] using h1
      | some d =>
        by_cases e : d = t
        · subst e; rw [hd] at hv; exact put_same hv a (h.tmps.trans hF.symm)
        · simp only [Act.put]
          rw [Array.getElem?_setIfInBounds_ne e]; exact h1
  · have h1 := h.rest t fun j oj hj hjt => by
      by_cases hji : j = i
      · subst hji
        have := ht j oj hj hjt
        rw [hseti] at this; cases this
      · have := ht j oj hj hjt
        rw [hset j hji] at this; exact this
    cases hd : o.dst with
    | none => simpa [Act.put] using h1
    | some d =>
      have e : d ≠ t := fun e => by
        subst e
        have := ht i o hi hd
        rw [hseti] at this; cases this
      simp only [Act.put]
      rw [Array.getElem?_setIfInBounds_ne e]; exact h1
theorem wpAny_dag {P : Program} {md : Region.Mode} {ops : Array Oper} {Q : Exit → Act → World → Prop} {a0 : Act} (vs : List (Tmp × Value)) (J : (Nat → Bool) → World → Prop)
    (hns : Region.noSelect ops = true) (hok : dagOk md ops = true) (hk : vs.map (·.1) = ops.toList.filterMap (·.dst))
    (hstep : DagSteps P md ops (putAll a0 vs) J 0 ops.toList)
    (hend : ∀ w, J (fun k => decide (k < ops.size)) w → Q .normal (putAll a0 vs) w) :
    ∀ (fuel : Nat) (listed : Array Bool) (a : Act) (w : World), listed.toList.count false ≤ fuel → DagAt ops a0 (putAll a0 vs) listed a → J (fun k => listed.getD k false) w → wpAny P md ops Q fuel listed a w := by
  obtain ⟨f1, f2, f3⟩ := putAll_spec vs a0
  generalize putAll a0 vs = F at *
  have key : ∀ t, (∀ (j : Nat) (oj : Oper), ops[j]? = some oj → oj.dst ≠ some t) → F.tmps[t]? = a0.tmps[t]? := fun t ht => f3 t fun hm => by
    rw [hk] at hm
    obtain ⟨o, ho, hd⟩ := List.mem_filterMap.1 hm
    obtain ⟨j, hj⟩ := List.mem_iff_getElem?.1 ho
    exact ht j o (by simpa using hj) hd
  -- all done
  have fin : ∀ (listed : Array Bool) (a : Act) (w : World), DagAt ops a0 F listed a → (∀ j, j < ops.size → listed.getD j false = true) → J (fun k => listed.getD k false) w → Q .normal a w := by
    intro listed a w hd hall hJ
    have e : a = F := by
      have ht : a.tmps = F.tmps := by
        apply Array.ext_getElem?
        intro t
        by_cases h : ∃ (j : Nat) (oj : Oper), ops[j]? = some oj ∧ oj.dst = some t
        · obtain ⟨j, oj, h1, h2⟩ := h
          exact hd.done j oj t h1 h2 (hall j (Array.getElem?_eq_some_iff.1 h1).1)
        · rw [hd.rest t fun j oj h1 h2 => absurd ⟨j, oj, h1, h2⟩ h, key t fun j oj h1 h2 => h ⟨j, oj, h1, h2⟩]
      have hdf := hd.defers.trans f1.symm
      cases a; cases F
      simp only at ht hdf
      subst ht; subst hdf
      rfl
    rw [e]
    refine hend w ?_
    have e2 : (fun k => listed.getD k false) = fun k => decide (k < ops.size) := by
      funext k
      by_cases hk : k < ops.size
      · rw [hall k hk, decide_eq_true hk]
      · rw [decide_eq_false hk]
        have := hd.size
        simp [Array.getD, show ¬ k < listed.size by omega]
    rw [e2] at hJ
    exact hJ
  -- none may come up: all done
  have stuck : ∀ (listed : Array Bool) (a : Act), DagAt ops a0 F listed a → Region.ready md ops listed = [] → ∀ j, j < ops.size → listed.getD j false = true := by
    intro listed a hd hr j
    induction j using Nat.strongRecOn with
    | _ j ih =>
      intro hj
      refine Classical.byContradiction fun hn => ?_
      obtain ⟨o, ho⟩ : ∃ o, ops[j]? = some o := ⟨_, Array.getElem?_eq_getElem hj⟩
      have hmem : j ∈ Region.ready md ops listed := by
        rw [mem_ready]
        refine ⟨?_, o, ho, fun e he hb => ?_⟩
        · have := hd.size
          have h2 : listed.getD j false = false := by simpa using hn
          simp only [Array.getD, show j < listed.size by omega, dif_pos] at h2 ⊢
          exact h2
        · have hlt := (dagOk_spec hok ho).1 e he hb
          exact ih e.on hlt (by omega)
      rw [hr] at hmem
      cases hmem
  intro fuel
  induction fuel with
  | zero =>
    intro listed a w hc hd hJ
    have hall : ∀ j, j < ops.size → listed.getD j false = true := fun j hj => by
      have h1 : List.count false listed.toList = 0 := by omega
      have h2 := List.count_eq_zero.1 h1
      have hjl : j < listed.size := by have := hd.size; omega
      cases hv : listed[j]
      · exact absurd (by rw [← hv]; simp) h2
      · simp [Array.getD, hjl, hv]
    refine ⟨?_, fin listed a w hd hall hJ⟩
    refine List.eq_nil_iff_forall_not_mem.2 fun j hj => ?_
    obtain ⟨h1, o, ho, _⟩ := mem_ready.1 hj
    have hlt := (Array.getElem?_eq_some_iff.1 ho).1
    have h2 := hall j hlt
    have := hd.size
    simp only [Array.getD, show j < listed.size by omega, dif_pos] at h1 h2
    rw [h1] at h2; cases h2
  | succ fuel ih =>
    intro listed a w hc hd hJ
    refine ⟨fun hr => fin listed a w hd (stuck listed a hd hr) hJ, fun i hi => ?_⟩
    obtain ⟨h1, o, ho, hdep⟩ := mem_ready.1 hi
    have hlt := (Array.getElem?_eq_some_iff.1 ho).1
    have hls := hd.size
    have hil : i < listed.size := by omega
    have h1' : listed.getD i false = false := by simp only [Array.getD, hil, dif_pos] at h1 ⊢; exact h1
    have hst : DagStep P md ops F J i o := by have := hstep.at (i := i) (o := o) (by simpa using ho); rw [Nat.zero_add] at this; exact this
    have hcount : (listed.setIfInBounds i true).toList.count false ≤ fuel := by
      rw [Array.toList_setIfInBounds, List.count_set (by simpa using hil)]
      have hli : listed.toList[i]'(by simpa using hil) = false := by
        simp only [Array.getD, hil, dif_pos] at h1
        simpa using h1
      have hpos : 0 < listed.toList.count false := List.count_pos_iff.2 (by rw [← hli]; exact List.getElem_mem _)
      simp only [hli]
      show listed.toList.count false - 1 + 0 ≤ fuel
      omega
    -- the slots that it looks at
    have slot : ∀ t, t ∈ o.looksAt ops → a.tmps[t]? = F.tmps[t]? := fun t ht => by
      by_cases h : ∃ (j : Nat) (oj : Oper), ops[j]? = some oj ∧ oj.dst = some t
      · obtain ⟨j, oj, hj, hjd⟩ := h
        obtain ⟨e, he, hb, rfl⟩ := (dagOk_spec hok ho).2 j oj t hj hjd ht
        exact hd.done _ oj t hj hjd (hdep e he hb)
      · rw [hd.rest t fun j oj h1 h2 => absurd ⟨j, oj, h1, h2⟩ h, key t fun j oj h1 h2 => h ⟨j, oj, h1, h2⟩]
    have hex : execOp a.eval o = execOp F.eval o := execOp_congr o (fun cs b => Region.noSelect_spec hns i o cs b ho) fun x hx => by
      cases x with
      | tmp t =>
        have := slot t (List.mem_append_left _ (List.mem_filterMap.2 ⟨.tmp t, by simpa using hx, rfl⟩))
        simp only [Act.eval, Array.getD_eq_getD_getElem?, this]
      | _ => rfl
    have hwt : Region.wanted o (yielded ops a.tmps) = Region.wanted o (yielded ops F.tmps) := by
      unfold Region.wanted
      cases hg : o.guard with
      | none => rfl
      | some gw =>
        obtain ⟨gi, want⟩ := gw
        have hy : yielded ops a.tmps gi = yielded ops F.tmps gi := by
          unfold yielded
          cases ht : (ops[gi]?).bind (·.dst) with
          | none => rfl
          | some t =>
            have := slot t (List.mem_append_right _ (by simp [hg, ht]))
            simp only [Option.bind_some, this]
        simp only [hy]
    have hupd : upd (fun k => listed.getD k false) i = fun k => (listed.setIfInBounds i true).getD k false := by
      funext k
      unfold upd
      by_cases hki : k = i
      · subst hki; rw [if_pos rfl]; simp [hil]
      · rw [if_neg hki, getD_set_ne false (Ne.symm hki)]
    unfold wpOp
    simp only [ho, hwt]
    rcases hst with ⟨hw, hs⟩ | ⟨hw, hp, hs⟩
    · rw [if_pos hw]
      refine .inl ?_
      have := hs (fun k => listed.getD k false) w h1' hdep hJ
      unfold Oper.wp at this ⊢
      rw [hex]
      refine upon_from this fun v w' hv hJ' => ih _ _ _ hcount (hd.next ho f2 hv) ?_
      rw [← hupd]; exact hJ'
    · rw [if_neg (by rw [hw]; exact Bool.false_ne_true)]
      refine ih _ _ _ hcount (hd.next ho f2 hp) ?_
      rw [← hupd]; exact hs _ w h1' hJ
/-- The whole region. -/
theorem wp_dag {P : Program} {ops : Array Oper} {Q : Exit → Act → World → Prop} {id : Nat} {a0 : Act} {w : World} (vs : List (Tmp × Value)) (J : (Nat → Bool) → World → Prop) (hm : P.follows .mixedOrders = true)
    (hns : Region.noSelect ops = true) (hok : dagOk .any ops = true) (hk : vs.map (·.1) = ops.toList.filterMap (·.dst))
    (h0 : J (fun _ => false) w.drew)
    (hstep : DagSteps P .any ops (putAll a0 vs) J 0 ops.toList)
    (hend : ∀ w, J (fun k => decide (k < ops.size)) w → Q .normal (putAll a0 vs) w) : (Code.region id ops true).wp P Q a0 w := by
  refine wp_region_any hm ?_
  refine wpAny_dag vs J hns hok hk hstep hend _ _ _ _ (by simp [Array.toList_replicate]) ⟨by simp, rfl, rfl, fun j oj t h1 h2 h3 => ?_, fun t _ => rfl⟩ ?_
  · by_cases hj : j < ops.size <;> simp [Array.getD, hj] at h3
  · have e : (fun k => (Array.replicate ops.size false).getD k false) = fun _ => false := by
      funext k
      by_cases hj : k < ops.size <;> simp [Array.getD, hj]
    rw [e]; exact h0
end Go.Proofs.YtadbbknllakpcaaGreat

/- The steps of a region looked at once each: values, loads, comparisons, calls. No program in sight. -/
namespace Go.Proofs.YtadbbknllakpcaaGreat
open Go.RowKit
set_option linter.unusedVariables false

section
variable {P : Program} {md : Region.Mode} {ops : Array Oper} {F : Act} {J : (Nat → Bool) → World → Prop} {i : Nat} {o : Oper} {r : List Oper}
theorem dag_cons (h : DagStep P md ops F J i o) (hr : DagSteps P md ops F J (i + 1) r) : DagSteps P md ops F J i (o :: r) := ⟨h, hr⟩
theorem dag_nil : DagSteps P md ops F J i [] := trivial
theorem dag_val {v : Value} (hw : Region.wanted o (yielded ops F.tmps) = true) (hp : F.put o.dst v = F) (hx : ∀ (g : Nat → Bool) (w : World), J g w → (execOp F.eval o).run P w = .ok (.value v) w)
    (hJ : ∀ (g : Nat → Bool) (w : World), J g w → J (upd g i) w) : DagStep P md ops F J i o := by
  refine .inl ⟨hw, fun g w h1 h2 h3 => ?_⟩
  unfold Oper.wp
  rw [hx g w h3]
  exact ⟨hp, hJ g w h3⟩
theorem dag_call {f : FuncId} {args : Array Value} {v : Value} (hw : Region.wanted o (yielded ops F.tmps) = true) (hp : F.put o.dst v = F) (hx : ∀ (w : World), (execOp F.eval o).run P w = .ok (.enter f args) w)
    (hJ : ∀ (g : Nat → Bool) (w : World), g i = false → J g w → Calls P f args w fun e w' => e = .returned v ∧ J (upd g i) w') : DagStep P md ops F J i o := by
  refine .inl ⟨hw, fun g w h1 h2 h3 => ?_⟩
  unfold Oper.wp
  rw [hx w]
  refine (hJ g w h1 h3).mono ?_
  rintro e w' ⟨rfl, h⟩
  exact ⟨hp, h⟩
theorem run_load1 {t : TypeId} {d : TypeDesc} {p : Addr} {v : Value} {w : World} (hu : P.underlying t = some d) (hd : (match d with | .struct _ | .array _ _ => false | _ => true) = true) (hc : w.cell? p = some v) : (loadVar t p).run P w = .ok v w := by
  have hagg : (isAgg t).run P w = .ok false w := by
    unfold isAgg
    rw [Sem.run_bind, run_underlying hu w]
    cases d <;> simp_all
  simp [loadVar, Sem.run_bind, hagg, run_load, hc]
theorem dag_load {t : TypeId} {d : TypeDesc} {x : Operand} {p : Addr} {v : Value} (hw : Region.wanted o (yielded ops F.tmps) = true) (hp : F.put o.dst v = F) (ho : o.op = .load t x) (hx : F.eval x = .pointer (some p)) (hu : P.underlying t = some d) (hd : (match d with | .struct _ | .array _ _ => false | _ => true) = true)
    (hc : ∀ (g : Nat → Bool) (w : World), J g w → w.cell? p = some v) (hJ : ∀ (g : Nat → Bool) (w : World), J g w → J (upd g i) w) : DagStep P md ops F J i o := by
  refine dag_val hw hp (fun g w h => ?_) hJ
  unfold execOp
  simp only [ho, hx, Instr.loadAt, Instr.sureAddr, Sem.run_bind, Sem.run_pure, Result.andThen_ok, run_load1 hu hd (hc g w h)]
theorem dag_eq {t t' : TypeId} {x y : Operand} {k : IntKind} {c : Int} (hw : Region.wanted o (yielded ops F.tmps) = true) (hp : F.put o.dst (.bool true) = F) (ho : o.op = .binOp .eql t x y t') (hx : F.eval x = .int k c) (hy : F.eval y = .int k c)
    (hJ : ∀ (g : Nat → Bool) (w : World), J g w → J (upd g i) w) : DagStep P md ops F J i o := by
  refine dag_val hw hp (fun g w h => ?_) hJ
  unfold execOp
  simp only [ho, hx, hy, eqGuard_at_int, Sem.run_bind, Sem.run_pure, Result.andThen_ok]
  simp [binOp, Op.intCmp, go_sem]
theorem dag_call2 {f : FuncId} {args : Array Value} {v : Value} (hw : Region.wanted o (yielded ops F.tmps) = true) (hp : F.put o.dst v = F) (hx : ∀ (w : World), (execOp F.eval o).run P w = .ok (.enter f args) w)
    (hJ : ∀ (g : Nat → Bool) (w : World), g i = false → (∀ e ∈ o.after, Region.binds md e = true → g e.on = true) → J g w → Calls P f args w fun e w' => e = .returned v ∧ J (upd g i) w') : DagStep P md ops F J i o := by
  refine .inl ⟨hw, fun g w h1 h2 h3 => ?_⟩
  unfold Oper.wp
  rw [hx w]
  refine (hJ g w h1 h2 h3).mono ?_
  rintro e w' ⟨rfl, h⟩
  exact ⟨hp, h⟩
end
end Go.Proofs.YtadbbknllakpcaaGreat

/- More steps of a region looked at once each: strings, rows, conversions. No program in sight. -/
namespace Go.Proofs.YtadbbknllakpcaaGreat
open Go.RowKit
set_option linter.unusedVariables false

section
variable {P : Program} {md : Region.Mode} {ops : Array Oper} {F : Act} {J : (Nat → Bool) → World → Prop} {i : Nat} {o : Oper}
/-- A value that may make memory, and may lean on what was done ahead. -/
theorem dag_make {v : Value} (hw : Region.wanted o (yielded ops F.tmps) = true) (hp : F.put o.dst v = F)
    (hx : ∀ (g : Nat → Bool) (w : World), g i = false → (∀ e ∈ o.after, Region.binds md e = true → g e.on = true) → J g w → ∃ w', (execOp F.eval o).run P w = .ok (.value v) w' ∧ J (upd g i) w') : DagStep P md ops F J i o := by
  refine .inl ⟨hw, fun g w h1 h2 h3 => ?_⟩
  obtain ⟨w', hr, hj⟩ := hx g w h1 h2 h3
  unfold Oper.wp
  rw [hr]
  exact ⟨hp, hj⟩
theorem dag_index {t : TypeId} {x ix : Operand} {v1 v2 v : Value} (hw : Region.wanted o (yielded ops F.tmps) = true) (hp : F.put o.dst v = F) (ho : o.op = .indexAddr t x ix) (hx : F.eval x = v1) (hy : F.eval ix = v2) (hr : ∀ w : World, (Instr.indexAt t v1 v2).run P w = .ok v w)
    (hJ : ∀ (g : Nat → Bool) (w : World), J g w → J (upd g i) w) : DagStep P md ops F J i o := by
  refine dag_val hw hp (fun g w h => ?_) hJ
  unfold execOp
  simp only [ho, hx, hy, Sem.run_bind, hr, Result.andThen_ok, Sem.run_pure]
theorem dag_field {s : TypeId} {x : Operand} {k : Nat} {v1 v : Value} (hw : Region.wanted o (yielded ops F.tmps) = true) (hp : F.put o.dst v = F) (ho : o.op = .fieldAddr s x k) (hx : F.eval x = v1) (hr : ∀ w : World, (Instr.fieldAt s v1 k).run P w = .ok v w)
    (hJ : ∀ (g : Nat → Bool) (w : World), J g w → J (upd g i) w) : DagStep P md ops F J i o := by
  refine dag_val hw hp (fun g w h => ?_) hJ
  unfold execOp
  simp only [ho, hx, Sem.run_bind, hr, Result.andThen_ok, Sem.run_pure]
theorem dag_conv {s d : TypeId} {x : Operand} {v u : Value}
    (hw : Region.wanted o (yielded ops F.tmps) = true) (hp : F.put o.dst u = F) (ho : o.op = .convert s d x) (hx : F.eval x = v) (hr : ∀ w : World, (convert s d v).run P w = .ok u w) (hJ : ∀ (g : Nat → Bool) (w : World), J g w → J (upd g i) w) : DagStep P md ops F J i o := by
  refine dag_val hw hp (fun g w h => ?_) hJ
  unfold execOp
  simp only [ho, hx, Sem.run_bind, hr, Result.andThen_ok, Sem.run_pure]
theorem dag_convJ {s d : TypeId} {x : Operand} {v u : Value}
    (hw : Region.wanted o (yielded ops F.tmps) = true) (hp : F.put o.dst u = F) (ho : o.op = .convert s d x) (hx : F.eval x = v) (hr : ∀ (g : Nat → Bool) (w : World), (∀ e ∈ o.after, Region.binds md e = true → g e.on = true) → J g w → (convert s d v).run P w = .ok u w) (hJ : ∀ (g : Nat → Bool) (w : World), J g w → J (upd g i) w) : DagStep P md ops F J i o := by
  refine dag_make hw hp (fun g w h1 h2 h => ⟨w, ?_, hJ g w h⟩)
  unfold execOp
  simp only [ho, hx, Sem.run_bind, hr g w h2 h, Result.andThen_ok, Sem.run_pure]
theorem dag_bin {b : BinOp} {t t' : TypeId} {x y : Operand} {v1 v2 v : Value}
    (hw : Region.wanted o (yielded ops F.tmps) = true) (hp : F.put o.dst v = F) (ho : o.op = .binOp b t x y t') (hx : F.eval x = v1) (hy : F.eval y = v2) (hg : eqGuard b t x y v1 v2 = pure ()) (hr : ∀ w : World, (binOp b t v1 v2).run P w = .ok v w)
    (hJ : ∀ (g : Nat → Bool) (w : World), J g w → J (upd g i) w) : DagStep P md ops F J i o := by
  refine dag_val hw hp (fun g w h => ?_) hJ
  unfold execOp
  simp only [ho, hx, hy, hg, Sem.run_bind, Sem.run_pure, hr, Result.andThen_ok]
theorem dag_loadS {t ty : TypeId} {d : TypeDesc} {x : Operand} {S : Nat} {cs : Array Value}
    (hw : Region.wanted o (yielded ops F.tmps) = true) (hp : F.put o.dst (.agg cs) = F) (ho : o.op = .load t x) (hx : F.eval x = .pointer (some ⟨S, 0, none⟩)) (hu : P.underlying t = some d) (hd : (match d with | .struct _ | .array _ _ => true | _ => false) = true) (hi : (P.info? t).map (·.size) = some cs.size)
    (hc : ∀ (g : Nat → Bool) (w : World), J g w → w.heap[S]? = some (.cells cs ty (0, 0))) (hJ : ∀ (g : Nat → Bool) (w : World), J g w → J (upd g i) w) : DagStep P md ops F J i o := by
  refine dag_val hw hp (fun g w h => ?_) hJ
  unfold execOp
  simp only [ho, hx, Instr.loadAt, Instr.sureAddr, Sem.run_bind, Sem.run_pure, Result.andThen_ok, run_loadVar_row w S ty t cs (0, 0) d (hc g w h) hu hd hi]
theorem dag_eqS {t t' : TypeId} {x y : Operand} {s : ByteArray}
    (hw : Region.wanted o (yielded ops F.tmps) = true) (hp : F.put o.dst (.bool true) = F) (ho : o.op = .binOp .eql t x y t') (hx : F.eval x = .string s) (hy : F.eval y = .string s) (hJ : ∀ (g : Nat → Bool) (w : World), J g w → J (upd g i) w) : DagStep P md ops F J i o := by
  refine dag_val hw hp (fun g w h => ?_) hJ
  unfold execOp
  simp only [ho, hx, hy, eqGuard_at_string, Sem.run_bind, Sem.run_pure, Result.andThen_ok, binOp_string_eql, beq_self_eq_true]
end
theorem run_addS {P : Program} {t : TypeId} {s u : ByteArray} (hs : s.size + u.size ≤ 1000000) (w : World) : (binOp .add t (.string s) (.string u)).run P w = .ok (.string (s ++ u)) w := by
  have : ¬ ((s.size + u.size : Nat) : Int) > IntKind.i64.max := by simp; omega
  simp only [binOp, Op.stringOp]
  rw [if_neg this]
  rfl
end Go.Proofs.YtadbbknllakpcaaGreat

/- A region that draws its order, as XDag: where some slots are written late, by operations that wait for all who read them as they were. No program in sight. -/
namespace Go.Proofs.YtadbbknllakpcaaGreat
open Go.RowKit
set_option linter.unusedVariables false

def dagOkL (md : Region.Mode) (ops : Array Oper) (late : List Tmp) : Bool :=
  (List.range ops.size).all fun i => match ops[i]? with
    | none => true
    | some o => o.after.all (fun e => !Region.binds md e || decide (e.on < i)) &&
      (List.range ops.size).all fun j => match ops[j]? with
        | none => true
        | some oj => match oj.dst with
          | none => true
          | some d => !(o.looksAt ops).contains d || (if late.contains d then oj.after.any (fun e => Region.binds md e && e.on == i) else o.after.any (fun e => Region.binds md e && e.on == j))
theorem dagOkL_spec {md : Region.Mode} {ops : Array Oper} {late : List Tmp} (h : dagOkL md ops late = true) {i : Nat} {o : Oper} (hi : ops[i]? = some o) :
    (∀ e ∈ o.after, Region.binds md e = true → e.on < i) ∧ ∀ (j : Nat) (oj : Oper) (d : Tmp), ops[j]? = some oj → oj.dst = some d → d ∈ o.looksAt ops → (late.contains d = true ∧ ∃ e ∈ oj.after, Region.binds md e = true ∧ e.on = i) ∨ (late.contains d = false ∧ ∃ e ∈ o.after, Region.binds md e = true ∧ e.on = j) := by
  have hlt := (Array.getElem?_eq_some_iff.1 hi).1
  have h1 := List.all_eq_true.1 h i (List.mem_range.2 hlt)
  rw [hi] at h1
  simp only [Bool.and_eq_true] at h1
  refine ⟨fun e he hb => ?_, fun j oj d hj hd hl => ?_⟩
  · have := Array.all_eq_true_iff_forall_mem.1 h1.1 e he
    rw [hb] at this
    simpa using this
  · have h2 := List.all_eq_true.1 h1.2 j (List.mem_range.2 (Array.getElem?_eq_some_iff.1 hj).1)
    rw [hj] at h2
    simp only [hd, Bool.or_eq_true, Bool.not_eq_true'] at h2
    rcases h2 with h2 | h2
    · rw [List.contains_iff_mem.2 hl] at h2; cases h2
    · cases hc : late.contains d
      · rw [if_neg (by rw [hc]; decide)] at h2
        obtain ⟨e, he, hb⟩ := Array.any_eq_true'.1 h2
        simp only [Bool.and_eq_true, beq_iff_eq] at hb
        exact .inr ⟨rfl, e, he, hb.1, hb.2⟩
      · rw [if_pos hc] at h2
        obtain ⟨e, he, hb⟩ := Array.any_eq_true'.1 h2
        simp only [Bool.and_eq_true, beq_iff_eq] at hb
        exact .inl ⟨rfl, e, he, hb.1, hb.2⟩
theorem putAll_filter (late : List Tmp) (vs : List (Tmp × Value)) (a b : Act) (hs : a.tmps.size = b.tmps.size) (t : Tmp) (ht : late.contains t = false) (hab : a.tmps[t]? = b.tmps[t]?) : (putAll a (vs.filter fun p => !late.contains p.1)).tmps[t]? = (putAll b vs).tmps[t]? := by
  induction vs generalizing a b with
  | nil => exact hab
  | cons p vs ih =>
    rw [List.filter_cons]
    cases hc : late.contains p.1
    · simp only [Bool.not_false, if_true]
      show (putAll (a.put (some p.1) p.2) _).tmps[t]? = (putAll (b.put (some p.1) p.2) vs).tmps[t]?
      refine ih _ _ (by simp [Act.put, hs]) ?_
      by_cases e : p.1 = t
      · simp [Act.put, Array.getElem?_setIfInBounds, hs, e]
      · simp only [Act.put]
        rw [Array.getElem?_setIfInBounds_ne e, Array.getElem?_setIfInBounds_ne e]; exact hab
    · simp only [Bool.not_true, if_neg Bool.false_ne_true]
      show (putAll a _).tmps[t]? = (putAll (b.put (some p.1) p.2) vs).tmps[t]?
      refine ih _ _ (by simp [Act.put, hs]) ?_
      have e : p.1 ≠ t := fun e => by rw [e, ht] at hc; cases hc
      simp only [Act.put]
      rw [Array.getElem?_setIfInBounds_ne e]; exact hab
def DagStepL (P : Program) (md : Region.Mode) (ops : Array Oper) (F G : Act) (late : List Tmp) (J : (Nat → Bool) → World → Prop) (i : Nat) (o : Oper) : Prop :=
  ((o.looksAt ops).any (late.contains ·) = false ∧ DagStep P md ops F J i o) ∨ ((match o.dst with | some d => late.contains d | none => false) = false ∧ DagStep P md ops G J i o)
def DagStepsL (P : Program) (md : Region.Mode) (ops : Array Oper) (F G : Act) (late : List Tmp) (J : (Nat → Bool) → World → Prop) : Nat → List Oper → Prop
  | _, [] => True
  | i, o :: r => DagStepL P md ops F G late J i o ∧ DagStepsL P md ops F G late J (i + 1) r
theorem DagStepsL.at {P : Program} {md : Region.Mode} {ops : Array Oper} {F G : Act} {late : List Tmp} {J : (Nat → Bool) → World → Prop} {l : List Oper} {k : Nat} (h : DagStepsL P md ops F G late J k l) {i : Nat} {o : Oper} (hi : l[i]? = some o) : DagStepL P md ops F G late J (k + i) o := by
  induction l generalizing k i with
  | nil => simp at hi
  | cons x l ih =>
    cases i with
    | zero => simp at hi; subst hi; exact h.1
    | succ i =>
      have := ih h.2 (i := i) (by simpa using hi)
      rw [show k + (i + 1) = k + 1 + i by omega]
      exact this
section
variable {P : Program} {md : Region.Mode} {ops : Array Oper} {F G : Act} {late : List Tmp} {J : (Nat → Bool) → World → Prop} {i : Nat} {o : Oper} {r : List Oper}
theorem dagL_cons (hn : (o.looksAt ops).any (late.contains ·) = false) (h : DagStep P md ops F J i o) (hr : DagStepsL P md ops F G late J (i + 1) r) : DagStepsL P md ops F G late J i (o :: r) := ⟨.inl ⟨hn, h⟩, hr⟩
theorem dagL_late (hn : (match o.dst with | some d => late.contains d | none => false) = false) (h : DagStep P md ops G J i o) (hr : DagStepsL P md ops F G late J (i + 1) r) : DagStepsL P md ops F G late J i (o :: r) := ⟨.inr ⟨hn, h⟩, hr⟩
theorem dagL_nil : DagStepsL P md ops F G late J i [] := trivial
end
def Closed (md : Region.Mode) (ops : Array Oper) (listed : Array Bool) : Prop :=
  ∀ (j : Nat) (oj : Oper), ops[j]? = some oj → listed.getD j false = true → ∀ e ∈ oj.after, Region.binds md e = true → listed.getD e.on false = true
theorem wpAny_dagL {P : Program} {md : Region.Mode} {ops : Array Oper} {Q : Exit → Act → World → Prop} {a0 : Act} (late : List Tmp) (vs : List (Tmp × Value)) (J : (Nat → Bool) → World → Prop)
    (hns : Region.noSelect ops = true) (hok : dagOkL md ops late = true) (hk : vs.map (·.1) = ops.toList.filterMap (·.dst))
    (hstep : DagStepsL P md ops (putAll a0 vs) (putAll a0 (vs.filter fun p => !late.contains p.1)) late J 0 ops.toList)
    (hend : ∀ w, J (fun k => decide (k < ops.size)) w → Q .normal (putAll a0 vs) w) :
    ∀ (fuel : Nat) (listed : Array Bool) (a : Act) (w : World), listed.toList.count false ≤ fuel → DagAt ops a0 (putAll a0 vs) listed a → Closed md ops listed → J (fun k => listed.getD k false) w → wpAny P md ops Q fuel listed a w := by
  obtain ⟨f1, f2, f3⟩ := putAll_spec vs a0
  obtain ⟨g1, g2, g3⟩ := putAll_spec (vs.filter fun p => !late.contains p.1) a0
  have g4 := putAll_filter late vs a0 a0 rfl
  have g5 : ∀ t, late.contains t = true → (putAll a0 (vs.filter fun p => !late.contains p.1)).tmps[t]? = a0.tmps[t]? := fun t ht => g3 t fun hm => by
    obtain ⟨p, hp, rfl⟩ := List.mem_map.1 hm
    have h1 := (List.mem_filter.1 hp).2
    simp only [ht, Bool.not_true] at h1
    cases h1
  have g6 : ∀ t, t ∉ vs.map (·.1) → (putAll a0 (vs.filter fun p => !late.contains p.1)).tmps[t]? = a0.tmps[t]? := fun t ht => g3 t fun hm => by
    obtain ⟨p, hp, rfl⟩ := List.mem_map.1 hm
    exact ht (List.mem_map.2 ⟨p, (List.mem_filter.1 hp).1, rfl⟩)
  have g7 : ∀ t, late.contains t = false → (putAll a0 (vs.filter fun p => !late.contains p.1)).tmps[t]? = (putAll a0 vs).tmps[t]? := fun t ht => g4 t ht rfl
  clear g4 g3
  generalize putAll a0 (vs.filter fun p => !late.contains p.1) = G at *
  generalize putAll a0 vs = F at *
  have keyG : ∀ t, (∀ (j : Nat) (oj : Oper), ops[j]? = some oj → oj.dst ≠ some t) → G.tmps[t]? = a0.tmps[t]? := fun t ht => g6 t fun hm => by
    rw [hk] at hm
    obtain ⟨o, ho, hd⟩ := List.mem_filterMap.1 hm
    obtain ⟨j, hj⟩ := List.mem_iff_getElem?.1 ho
    exact ht j o (by simpa using hj) hd
  have key : ∀ t, (∀ (j : Nat) (oj : Oper), ops[j]? = some oj → oj.dst ≠ some t) → F.tmps[t]? = a0.tmps[t]? := fun t ht => f3 t fun hm => by
    rw [hk] at hm
    obtain ⟨o, ho, hd⟩ := List.mem_filterMap.1 hm
    obtain ⟨j, hj⟩ := List.mem_iff_getElem?.1 ho
    exact ht j o (by simpa using hj) hd
  -- all done
  have fin : ∀ (listed : Array Bool) (a : Act) (w : World), DagAt ops a0 F listed a → (∀ j, j < ops.size → listed.getD j false = true) → J (fun k => listed.getD k false) w → Q .normal a w := by
    intro listed a w hd hall hJ
    have e : a = F := by
      have ht : a.tmps = F.tmps := by
        apply Array.ext_getElem?
        intro t
        by_cases h : ∃ (j : Nat) (oj : Oper), ops[j]? = some oj ∧ oj.dst = some t
        · obtain ⟨j, oj, h1, h2⟩ := h
          exact hd.done j oj t h1 h2 (hall j (Array.getElem?_eq_some_iff.1 h1).1)
        · rw [hd.rest t fun j oj h1 h2 => absurd ⟨j, oj, h1, h2⟩ h, key t fun j oj h1 h2 => h ⟨j, oj, h1, h2⟩]
      have hdf := hd.defers.trans f1.symm
      cases a; cases F
      simp only at ht hdf
      subst ht; subst hdf
      rfl
    rw [e]
    refine hend w ?_
    have e2 : (fun k => listed.getD k false) = fun k => decide (k < ops.size) := by
      funext k
      by_cases hk : k < ops.size
      · rw [hall k hk, decide_eq_true hk]
      · rw [decide_eq_false hk]
        have := hd.size
        simp [Array.getD, show ¬ k < listed.size by omega]
    rw [e2] at hJ
    exact hJ
  -- none may come up: all done
  have stuck : ∀ (listed : Array Bool) (a : Act), DagAt ops a0 F listed a → Region.ready md ops listed = [] → ∀ j, j < ops.size → listed.getD j false = true := by
    intro listed a hd hr j
    induction j using Nat.strongRecOn with
    | _ j ih =>
      intro hj
      refine Classical.byContradiction fun hn => ?_
      obtain ⟨o, ho⟩ : ∃ o, ops[j]? = some o := ⟨_, Array.getElem?_eq_getElem hj⟩
      have hmem : j ∈ Region.ready md ops listed := by
        rw [mem_ready]
        refine ⟨?_, o, ho, fun e he hb => ?_⟩
        · have := hd.size
          have h2 : listed.getD j false = false := by simpa using hn
          simp only [Array.getD, show j < listed.size by omega, dif_pos] at h2 ⊢
          exact h2
        · have hlt := (dagOkL_spec hok ho).1 e he hb
          exact ih e.on hlt (by omega)
      rw [hr] at hmem
      cases hmem
  intro fuel
  induction fuel with
  | zero =>
    intro listed a w hc hd hcl hJ
    have hall : ∀ j, j < ops.size → listed.getD j false = true := fun j hj => by
      have h1 : List.count false listed.toList = 0 := by omega
      have h2 := List.count_eq_zero.1 h1
      have hjl : j < listed.size := by have := hd.size; omega
      cases hv : listed[j]
      · exact absurd (by rw [← hv]; simp) h2
      · simp [Array.getD, hjl, hv]
    refine ⟨?_, fin listed a w hd hall hJ⟩
    refine List.eq_nil_iff_forall_not_mem.2 fun j hj => ?_
    obtain ⟨h1, o, ho, _⟩ := mem_ready.1 hj
    have hlt := (Array.getElem?_eq_some_iff.1 ho).1
    have h2 := hall j hlt
    have := hd.size
    simp only [Array.getD, show j < listed.size by omega, dif_pos] at h1 h2
    rw [h1] at h2; cases h2
  | succ fuel ih =>
    intro listed a w hc hd hcl hJ
    refine ⟨fun hr => fin listed a w hd (stuck listed a hd hr) hJ, fun i hi => ?_⟩
    obtain ⟨h1, o, ho, hdep⟩ := mem_ready.1 hi
    have hlt := (Array.getElem?_eq_some_iff.1 ho).1
    have hls := hd.size
    have hil : i < listed.size := by omega
    have h1' : listed.getD i false = false := by simp only [Array.getD, hil, dif_pos] at h1 ⊢; exact h1
    have hst : DagStepL P md ops F G late J i o := by have := hstep.at (i := i) (o := o) (by simpa using ho); rw [Nat.zero_add] at this; exact this
    have hcount : (listed.setIfInBounds i true).toList.count false ≤ fuel := by
      rw [Array.toList_setIfInBounds, List.count_set (by simpa using hil)]
      have hli : listed.toList[i]'(by simpa using hil) = false := by
        simp only [Array.getD, hil, dif_pos] at h1
        simpa using h1
      have hpos : 0 < listed.toList.count false := List.count_pos_iff.2 (by rw [← hli]; exact List.getElem_mem _)
      simp only [hli]
      show listed.toList.count false - 1 + 0 ≤ fuel
      omega
    have hupd : upd (fun k => listed.getD k false) i = fun k => (listed.setIfInBounds i true).getD k false := by
      funext k
      unfold upd
      by_cases hki : k = i
      · subst hki; rw [if_pos rfl]; simp [hil]
      · rw [if_neg hki, getD_set_ne false (Ne.symm hki)]
    have hcl2 : Closed md ops (listed.setIfInBounds i true) := by
      intro j oj hj hlj e he hb
      by_cases hji : j = i
      · subst hji
        cases ho.symm.trans hj
        have h5 := hdep e he hb
        by_cases hei : e.on = j
        · rw [hei]; simp [hil]
        · rw [getD_set_ne false (Ne.symm hei)]; exact h5
      · rw [getD_set_ne false (Ne.symm hji)] at hlj
        have h5 := hcl j oj hj hlj e he hb
        by_cases hei : e.on = i
        · rw [hei]; simp [hil]
        · rw [getD_set_ne false (Ne.symm hei)]; exact h5
    have step : ∀ H : Act, (∀ t, t ∈ o.looksAt ops → a.tmps[t]? = H.tmps[t]?) → (∀ v, H.put o.dst v = H → F.put o.dst v = F) → DagStep P md ops H J i o → wpOp P ops Q i (wpAny P md ops Q fuel (listed.setIfInBounds i true)) a w := by
      intro H slot hput hs0
      have hex : execOp a.eval o = execOp H.eval o := execOp_congr o (fun cs b => Region.noSelect_spec hns i o cs b ho) fun x hx => by
        cases x with
        | tmp t =>
          have := slot t (List.mem_append_left _ (List.mem_filterMap.2 ⟨.tmp t, by simpa using hx, rfl⟩))
          simp only [Act.eval, Array.getD_eq_getD_getElem?, this]
        | _ => rfl
      have hwt : Region.wanted o (yielded ops a.tmps) = Region.wanted o (yielded ops H.tmps) := by
        unfold Region.wanted
        cases hg : o.guard with
        | none => rfl
        | some gw =>
          obtain ⟨gi, want⟩ := gw
          have hy : yielded ops a.tmps gi = yielded ops H.tmps gi := by
            unfold yielded
            cases ht : (ops[gi]?).bind (·.dst) with
            | none => rfl
            | some t =>
              have := slot t (List.mem_append_right _ (by simp [hg, ht]))
              simp only [Option.bind_some, this]
          simp only [hy]
      unfold wpOp
      simp only [ho, hwt]
      rcases hs0 with ⟨hw, hs⟩ | ⟨hw, hp, hs⟩
      · rw [if_pos hw]
        refine .inl ?_
        have := hs (fun k => listed.getD k false) w h1' hdep hJ
        unfold Oper.wp at this ⊢
        rw [hex]
        refine upon_from this fun v w' hv hJ' => ih _ _ _ hcount (hd.next ho f2 (hput v hv)) hcl2 ?_
        rw [← hupd]; exact hJ'
      · rw [if_neg (by rw [hw]; exact Bool.false_ne_true)]
        refine ih _ _ _ hcount (hd.next ho f2 (hput _ hp)) hcl2 ?_
        rw [← hupd]; exact hs _ w h1' hJ
    rcases hst with ⟨hn, hs0⟩ | ⟨hn, hs0⟩
    · refine step F (fun t ht => ?_) (fun v h => h) hs0
      have hlt0 : late.contains t = false := by
        cases hc0 : late.contains t
        · rfl
        · have := List.any_eq_true.2 ⟨t, ht, hc0⟩
          rw [hn] at this; cases this
      by_cases h : ∃ (j : Nat) (oj : Oper), ops[j]? = some oj ∧ oj.dst = some t
      · obtain ⟨j, oj, hj, hjd⟩ := h
        rcases (dagOkL_spec hok ho).2 j oj t hj hjd ht with ⟨h5, _⟩ | ⟨_, e, he, hb, rfl⟩
        · rw [hlt0] at h5; cases h5
        · exact hd.done _ oj t hj hjd (hdep e he hb)
      · rw [hd.rest t fun j oj h1 h2 => absurd ⟨j, oj, h1, h2⟩ h, key t fun j oj h1 h2 => h ⟨j, oj, h1, h2⟩]
    · refine step G (fun t ht => ?_) (fun v h => ?_) hs0
      · by_cases h : ∃ (j : Nat) (oj : Oper), ops[j]? = some oj ∧ oj.dst = some t
        · cases hc0 : late.contains t
          · obtain ⟨j, oj, hj, hjd⟩ := h
            rcases (dagOkL_spec hok ho).2 j oj t hj hjd ht with ⟨h5, _⟩ | ⟨_, e, he, hb, rfl⟩
            · rw [hc0] at h5; cases h5
            · rw [g7 t hc0]; exact hd.done _ oj t hj hjd (hdep e he hb)
          · rw [g5 t hc0]
            refine hd.rest t fun j oj hj hjd => ?_
            rcases (dagOkL_spec hok ho).2 j oj t hj hjd ht with ⟨_, e, he, hb, h6⟩ | ⟨h5, _⟩
            · cases hlj : listed.getD j false
              · rfl
              · have := hcl j oj hj hlj e he hb
                rw [h6, h1'] at this; cases this
            · rw [hc0] at h5; cases h5
        · rw [hd.rest t fun j oj h1 h2 => absurd ⟨j, oj, h1, h2⟩ h, keyG t fun j oj h1 h2 => h ⟨j, oj, h1, h2⟩]
      · cases hdd : o.dst with
        | none => rfl
        | some d =>
          rw [hdd] at h hn
          have h5 := put_same h F (f2.trans g2.symm)
          rw [g7 d hn] at h5
          have ht : (F.put (some d) v).tmps = F.tmps := by
            apply Array.ext_getElem?
            intro t
            by_cases e : d = t
            · subst e; exact h5
            · simp only [Act.put]
              rw [Array.getElem?_setIfInBounds_ne e]
          have hdf : (F.put (some d) v).defers = F.defers := rfl
          generalize F.put (some d) v = F2 at *
          cases F2; cases F
          simp only at ht hdf
          subst ht; subst hdf
          rfl
/-- The whole region. -/
theorem wp_dagL {P : Program} {ops : Array Oper} {Q : Exit → Act → World → Prop} {id : Nat} {a0 : Act} {w : World} (late : List Tmp) (vs : List (Tmp × Value)) (J : (Nat → Bool) → World → Prop) (hm : P.follows .mixedOrders = true)
    (hns : Region.noSelect ops = true) (hok : dagOkL .any ops late = true) (hk : vs.map (·.1) = ops.toList.filterMap (·.dst))
    (h0 : J (fun _ => false) w.drew)
    (hstep : DagStepsL P .any ops (putAll a0 vs) (putAll a0 (vs.filter fun p => !late.contains p.1)) late J 0 ops.toList)
    (hend : ∀ w, J (fun k => decide (k < ops.size)) w → Q .normal (putAll a0 vs) w) : (Code.region id ops true).wp P Q a0 w := by
  refine wp_region_any hm ?_
  refine wpAny_dagL late vs J hns hok hk hstep hend _ _ _ _ (by simp [Array.toList_replicate]) ⟨by simp, rfl, rfl, fun j oj t h1 h2 h3 => ?_, fun t _ => rfl⟩ (fun j oj h1 h2 => ?_) ?_
  · by_cases hj : j < ops.size <;> simp [Array.getD, hj] at h3
  · by_cases hj : j < ops.size <;> simp [Array.getD, hj] at h2
  · have e : (fun k => (Array.replicate ops.size false).getD k false) = fun _ => false := by
      funext k
      by_cases hj : k < ops.size <;> simp [Array.getD, hj]
    rw [e]; exact h0
end Go.Proofs.YtadbbknllakpcaaGreat

/- A region that draws its order, as XDag: where one call's answer is not known ahead, and some slots lean on it. No program in sight. -/
namespace Go.Proofs.YtadbbknllakpcaaGreat
open Go.RowKit
set_option linter.unusedVariables false

/-- Whoever writes a slot that leans on operation c waits for c, or for one who does. -/
def depOk (md : Region.Mode) (ops : Array Oper) (c : Nat) (dep : List Tmp) : Bool :=
  (List.range ops.size).all fun j => j == c || match ops[j]? with
    | none => true
    | some oj => match oj.dst with
      | none => true
      | some d => !dep.contains d || oj.after.any fun e => Region.binds md e && (e.on == c || match (ops[e.on]?).bind (·.dst) with
        | some d' => dep.contains d'
        | none => false)
theorem depOk_spec {md : Region.Mode} {ops : Array Oper} {c : Nat} {dep : List Tmp} (h : depOk md ops c dep = true) {j : Nat} {oj : Oper} {t : Tmp} (hj : ops[j]? = some oj) (ht : oj.dst = some t) (hd : dep.contains t = true) (hjc : j ≠ c) :
    ∃ e ∈ oj.after, Region.binds md e = true ∧ (e.on = c ∨ ∃ o' d', ops[e.on]? = some o' ∧ o'.dst = some d' ∧ dep.contains d' = true) := by
  have hlt := (Array.getElem?_eq_some_iff.1 hj).1
  have h1 := List.all_eq_true.1 h j (List.mem_range.2 hlt)
  rw [hj] at h1
  simp only [ht, hd, Bool.not_true, Bool.false_or, Bool.or_eq_true, beq_iff_eq] at h1
  rcases h1 with h1 | h1
  · exact absurd h1 hjc
  · obtain ⟨e, he, hb⟩ := Array.any_eq_true'.1 h1
    simp only [Bool.and_eq_true, Bool.or_eq_true, beq_iff_eq] at hb
    refine ⟨e, he, hb.1, hb.2.imp id fun h2 => ?_⟩
    cases ho : ops[e.on]? with
    | none => rw [ho] at h2; cases h2
    | some o' =>
      rw [ho] at h2
      cases hd' : o'.dst with
      | none => simp [hd'] at h2
      | some d' => exact ⟨o', d', rfl, hd', by simpa [hd'] using h2⟩
def DagStepsU (P : Program) (md : Region.Mode) (ops : Array Oper) (F : Act) (J : (Nat → Bool) → World → Prop) (c : Nat) : Nat → List Oper → Prop
  | _, [] => True
  | i, o :: r => (i = c ∨ DagStep P md ops F J i o) ∧ DagStepsU P md ops F J c (i + 1) r
theorem DagStepsU.at {P : Program} {md : Region.Mode} {ops : Array Oper} {F : Act} {J : (Nat → Bool) → World → Prop} {c : Nat} {l : List Oper} {k : Nat} (h : DagStepsU P md ops F J c k l) {i : Nat} {o : Oper} (hi : l[i]? = some o) : k + i = c ∨ DagStep P md ops F J (k + i) o := by
  induction l generalizing k i with
  | nil => simp at hi
  | cons x l ih =>
    cases i with
    | zero => simp at hi; subst hi; exact h.1
    | succ i =>
      have := ih h.2 (i := i) (by simpa using hi)
      rw [show k + (i + 1) = k + 1 + i by omega]
      exact this
section
variable {P : Program} {md : Region.Mode} {ops : Array Oper} {F : Act} {J : (Nat → Bool) → World → Prop} {c i : Nat} {o : Oper} {r : List Oper}
theorem dagU_cons (h : DagStep P md ops F J i o) (hr : DagStepsU P md ops F J c (i + 1) r) : DagStepsU P md ops F J c i (o :: r) := ⟨.inr h, hr⟩
theorem dagU_call (h : i = c) (hr : DagStepsU P md ops F J c (i + 1) r) : DagStepsU P md ops F J c i (o :: r) := ⟨.inl h, hr⟩
theorem dagU_nil : DagStepsU P md ops F J c i [] := trivial
end
theorem wpAny_dagU {P : Program} {md : Region.Mode} {ops : Array Oper} {Q : Exit → Act → World → Prop} {a0 : Act} {U : Type} (vs : U → List (Tmp × Value)) (J : (Nat → Bool) → U → World → Prop) (c : Nat) (oc : Oper) (val : U → Value) (dep : List Tmp)
    (hns : Region.noSelect ops = true) (hok : dagOk md ops = true) (hk : ∀ x, (vs x).map (·.1) = ops.toList.filterMap (·.dst)) (hc : ops[c]? = some oc) (hcg : oc.guard = none) (hdep : depOk md ops c dep = true)
    (hflt : ∀ x y, (vs x).filter (fun p => !dep.contains p.1) = (vs y).filter fun p => !dep.contains p.1) (hval : ∀ y, (putAll a0 (vs y)).put oc.dst (val y) = putAll a0 (vs y)) (hJ : ∀ g x y w, g c = false → J g x w → J g y w)
    (hcall : ∀ x (g : Nat → Bool) w, g c = false → (∀ e ∈ oc.after, Region.binds md e = true → g e.on = true) → J g x w → ∃ f args, (execOp (putAll a0 (vs x)).eval oc).run P w = .ok (.enter f args) w ∧ Calls P f args w fun e w' => ∃ y, e = .returned (val y) ∧ J (upd g c) y w')
    (hstep : ∀ x, DagStepsU P md ops (putAll a0 (vs x)) (fun g => J g x) c 0 ops.toList)
    (hend : ∀ x w, J (fun k => decide (k < ops.size)) x w → Q .normal (putAll a0 (vs x)) w) :
    ∀ (fuel : Nat) (listed : Array Bool) (a : Act) (w : World) (x : U), listed.toList.count false ≤ fuel → DagAt ops a0 (putAll a0 (vs x)) listed a → Closed md ops listed → J (fun k => listed.getD k false) x w → wpAny P md ops Q fuel listed a w := by
  have hsame : ∀ x y t, dep.contains t = false → (putAll a0 (vs x)).tmps[t]? = (putAll a0 (vs y)).tmps[t]? := fun x y t ht => by
    rw [← putAll_filter dep (vs x) a0 a0 rfl t ht rfl, ← putAll_filter dep (vs y) a0 a0 rfl t ht rfl, hflt x y]
  have hsp := fun x => putAll_spec (vs x) a0
  obtain ⟨F, hF⟩ : ∃ F : U → Act, F = fun x => putAll a0 (vs x) := ⟨_, rfl⟩
  have hFx : ∀ x, putAll a0 (vs x) = F x := fun x => by rw [hF]
  simp only [hFx] at *
  clear hF
  have f2 : ∀ x, (F x).tmps.size = a0.tmps.size := fun x => (hsp x).2.1
  have f1 : ∀ x, (F x).defers = a0.defers := fun x => (hsp x).1
  have key : ∀ x t, (∀ (j : Nat) (oj : Oper), ops[j]? = some oj → oj.dst ≠ some t) → (F x).tmps[t]? = a0.tmps[t]? := fun x t ht => (hsp x).2.2 t fun hm => by
    rw [hk x] at hm
    obtain ⟨o, ho, hd⟩ := List.mem_filterMap.1 hm
    obtain ⟨j, hj⟩ := List.mem_iff_getElem?.1 ho
    exact ht j o (by simpa using hj) hd
  -- all done
  have fin : ∀ (listed : Array Bool) (a : Act) (w : World) (x : U), DagAt ops a0 (F x) listed a → (∀ j, j < ops.size → listed.getD j false = true) → J (fun k => listed.getD k false) x w → Q .normal a w := by
    intro listed a w x hd hall hJ
    have e : a = F x := by
      have ht : a.tmps = (F x).tmps := by
        apply Array.ext_getElem?
        intro t
        by_cases h : ∃ (j : Nat) (oj : Oper), ops[j]? = some oj ∧ oj.dst = some t
        · obtain ⟨j, oj, h1, h2⟩ := h
          exact hd.done j oj t h1 h2 (hall j (Array.getElem?_eq_some_iff.1 h1).1)
        · rw [hd.rest t fun j oj h1 h2 => absurd ⟨j, oj, h1, h2⟩ h, key x t fun j oj h1 h2 => h ⟨j, oj, h1, h2⟩]
      have hdf := hd.defers.trans (f1 x).symm
      generalize F x = G at *
      cases a; cases G
      simp only at ht hdf
      subst ht; subst hdf
      rfl
    rw [e]
    refine hend x w ?_
    have e2 : (fun k => listed.getD k false) = fun k => decide (k < ops.size) := by
      funext k
      by_cases hk : k < ops.size
      · rw [hall k hk, decide_eq_true hk]
      · rw [decide_eq_false hk]
        have := hd.size
        simp [Array.getD, show ¬ k < listed.size by omega]
    rw [e2] at hJ
    exact hJ
  -- none may come up: all done
  have stuck : ∀ (listed : Array Bool) (a : Act) (x : U), DagAt ops a0 (F x) listed a → Region.ready md ops listed = [] → ∀ j, j < ops.size → listed.getD j false = true := by
    intro listed a x hd hr j
    induction j using Nat.strongRecOn with
    | _ j ih =>
      intro hj
      refine Classical.byContradiction fun hn => ?_
      obtain ⟨o, ho⟩ : ∃ o, ops[j]? = some o := ⟨_, Array.getElem?_eq_getElem hj⟩
      have hmem : j ∈ Region.ready md ops listed := by
        rw [mem_ready]
        refine ⟨?_, o, ho, fun e he hb => ?_⟩
        · have := hd.size
          have h2 : listed.getD j false = false := by simpa using hn
          simp only [Array.getD, show j < listed.size by omega, dif_pos] at h2 ⊢
          exact h2
        · have hlt := (dagOk_spec hok ho).1 e he hb
          exact ih e.on hlt (by omega)
      rw [hr] at hmem
      cases hmem
  intro fuel
  induction fuel with
  | zero =>
    intro listed a w x hcn hd hcl hJw
    have hall : ∀ j, j < ops.size → listed.getD j false = true := fun j hj => by
      have h1 : List.count false listed.toList = 0 := by omega
      have h2 := List.count_eq_zero.1 h1
      have hjl : j < listed.size := by have := hd.size; omega
      cases hv : listed[j]
      · exact absurd (by rw [← hv]; simp) h2
      · simp [Array.getD, hjl, hv]
    refine ⟨?_, fin listed a w x hd hall hJw⟩
    refine List.eq_nil_iff_forall_not_mem.2 fun j hj => ?_
    obtain ⟨h1, o, ho, _⟩ := mem_ready.1 hj
    have hlt := (Array.getElem?_eq_some_iff.1 ho).1
    have h2 := hall j hlt
    have := hd.size
    simp only [Array.getD, show j < listed.size by omega, dif_pos] at h1 h2
    rw [h1] at h2; cases h2
  | succ fuel ih =>
    intro listed a w x hcn hd hcl hJw
    refine ⟨fun hr => fin listed a w x hd (stuck listed a x hd hr) hJw, fun i hi => ?_⟩
    obtain ⟨h1, o, ho, hdep1⟩ := mem_ready.1 hi
    have hlt := (Array.getElem?_eq_some_iff.1 ho).1
    have hls := hd.size
    have hil : i < listed.size := by omega
    have h1' : listed.getD i false = false := by simp only [Array.getD, hil, dif_pos] at h1 ⊢; exact h1
    have hst : i = c ∨ DagStep P md ops (F x) (fun g => J g x) i o := by have := (hstep x).at (i := i) (o := o) (by simpa using ho); rw [Nat.zero_add] at this; exact this
    have hdep2 : ∀ e ∈ o.after, Region.binds md e = true → (fun k => listed.getD k false) e.on = true := hdep1
    have hcount : (listed.setIfInBounds i true).toList.count false ≤ fuel := by
      rw [Array.toList_setIfInBounds, List.count_set (by simpa using hil)]
      have hli : listed.toList[i]'(by simpa using hil) = false := by
        simp only [Array.getD, hil, dif_pos] at h1
        simpa using h1
      have hpos : 0 < listed.toList.count false := List.count_pos_iff.2 (by rw [← hli]; exact List.getElem_mem _)
      simp only [hli]
      show listed.toList.count false - 1 + 0 ≤ fuel
      omega
    -- the slots that it looks at
    have slot : ∀ t, t ∈ o.looksAt ops → a.tmps[t]? = (F x).tmps[t]? := fun t ht => by
      by_cases h : ∃ (j : Nat) (oj : Oper), ops[j]? = some oj ∧ oj.dst = some t
      · obtain ⟨j, oj, hj, hjd⟩ := h
        obtain ⟨e, he, hb, rfl⟩ := (dagOk_spec hok ho).2 j oj t hj hjd ht
        exact hd.done _ oj t hj hjd (hdep1 e he hb)
      · rw [hd.rest t fun j oj h1 h2 => absurd ⟨j, oj, h1, h2⟩ h, key x t fun j oj h1 h2 => h ⟨j, oj, h1, h2⟩]
    have hex : execOp a.eval o = execOp (F x).eval o := execOp_congr o (fun cs b => Region.noSelect_spec hns i o cs b ho) fun x hx => by
      cases x with
      | tmp t =>
        have := slot t (List.mem_append_left _ (List.mem_filterMap.2 ⟨.tmp t, by simpa using hx, rfl⟩))
        simp only [Act.eval, Array.getD_eq_getD_getElem?, this]
      | _ => rfl
    have hwt : Region.wanted o (yielded ops a.tmps) = Region.wanted o (yielded ops (F x).tmps) := by
      unfold Region.wanted
      cases hg : o.guard with
      | none => rfl
      | some gw =>
        obtain ⟨gi, want⟩ := gw
        have hy : yielded ops a.tmps gi = yielded ops (F x).tmps gi := by
          unfold yielded
          cases ht : (ops[gi]?).bind (·.dst) with
          | none => rfl
          | some t =>
            have := slot t (List.mem_append_right _ (by simp [hg, ht]))
            simp only [Option.bind_some, this]
        simp only [hy]
    have hupd : upd (fun k => listed.getD k false) i = fun k => (listed.setIfInBounds i true).getD k false := by
      funext k
      unfold upd
      by_cases hki : k = i
      · subst hki; rw [if_pos rfl]; simp [hil]
      · rw [if_neg hki, getD_set_ne false (Ne.symm hki)]
    have hcl2 : Closed md ops (listed.setIfInBounds i true) := by
      intro j oj hj hlj e he hb
      by_cases hji : j = i
      · subst hji
        cases ho.symm.trans hj
        have h5 := hdep2 e he hb
        by_cases hei : e.on = j
        · rw [hei]; simp [hil]
        · rw [getD_set_ne false (Ne.symm hei)]; exact h5
      · rw [getD_set_ne false (Ne.symm hji)] at hlj
        have h5 := hcl j oj hj hlj e he hb
        by_cases hei : e.on = i
        · rw [hei]; simp [hil]
        · rw [getD_set_ne false (Ne.symm hei)]; exact h5
    unfold wpOp
    simp only [ho, hwt]
    rcases hst with rfl | hst
    · cases hc.symm.trans ho
      have hw : Region.wanted oc (yielded ops (F x).tmps) = true := by simp [Region.wanted, hcg]
      rw [if_pos hw]
      refine .inl ?_
      obtain ⟨f, args, hrun, hcalls⟩ := hcall x (fun k => listed.getD k false) w h1' hdep2 hJw
      unfold Oper.wp
      rw [hex, hrun]
      refine Calls.mono hcalls fun e w' he => ?_
      obtain ⟨y, rfl, hJ'⟩ := he
      -- none that leans on it is done
      have hno : ∀ (j : Nat) (oj : Oper) (t : Tmp), ops[j]? = some oj → oj.dst = some t → listed.getD j false = true → dep.contains t = false := by
        intro j
        induction j using Nat.strongRecOn with
        | _ j ihj =>
          intro oj t hj ht hl
          cases hct : dep.contains t
          · rfl
          · exfalso
            have hjc : j ≠ i := fun e => by subst e; rw [h1'] at hl; cases hl
            obtain ⟨e, he, hb, h5⟩ := depOk_spec hdep hj ht hct hjc
            have hle := hcl j oj hj hl e he hb
            have hlt2 := (dagOk_spec hok hj).1 e he hb
            rcases h5 with h5 | ⟨o', d', h6, h7, h8⟩
            · rw [h5, h1'] at hle; cases hle
            · have := ihj e.on hlt2 o' d' h6 h7 hle
              rw [this] at h8; cases h8
      have hd2 : DagAt ops a0 (F y) listed a := ⟨hd.size, hd.defers, hd.tmps, fun j oj t hj ht hl => (hd.done j oj t hj ht hl).trans (hsame x y t (hno j oj t hj ht hl)), hd.rest⟩
      refine ih _ _ _ y hcount (hd2.next ho (f2 y) (hval y)) hcl2 ?_
      rw [← hupd]; exact hJ'
    · rcases hst with ⟨hw, hs⟩ | ⟨hw, hp, hs⟩
      · rw [if_pos hw]
        refine .inl ?_
        have := hs (fun k => listed.getD k false) w h1' hdep2 hJw
        unfold Oper.wp at this ⊢
        rw [hex]
        refine upon_from this fun v w' hv hJ' => ih _ _ _ x hcount (hd.next ho (f2 x) hv) hcl2 ?_
        rw [← hupd]; exact hJ'
      · rw [if_neg (by rw [hw]; exact Bool.false_ne_true)]
        refine ih _ _ _ x hcount (hd.next ho (f2 x) hp) hcl2 ?_
        rw [← hupd]; exact hs _ w h1' hJw
/-- The whole region. -/
theorem wp_dagU {P : Program} {ops : Array Oper} {Q : Exit → Act → World → Prop} {id : Nat} {a0 : Act} {w : World} {U : Type} (vs : U → List (Tmp × Value)) (J : (Nat → Bool) → U → World → Prop) (c : Nat) (oc : Oper) (val : U → Value) (dep : List Tmp) (x0 : U) (hm : P.follows .mixedOrders = true)
    (hns : Region.noSelect ops = true) (hok : dagOk .any ops = true) (hk : ∀ x, (vs x).map (·.1) = ops.toList.filterMap (·.dst)) (hc : ops[c]? = some oc) (hcg : oc.guard = none) (hdep : depOk .any ops c dep = true)
    (hflt : ∀ x y, (vs x).filter (fun p => !dep.contains p.1) = (vs y).filter fun p => !dep.contains p.1) (hval : ∀ y, (putAll a0 (vs y)).put oc.dst (val y) = putAll a0 (vs y)) (hJ : ∀ g x y w, g c = false → J g x w → J g y w)
    (h0 : J (fun _ => false) x0 w.drew)
    (hcall : ∀ x (g : Nat → Bool) w, g c = false → (∀ e ∈ oc.after, Region.binds .any e = true → g e.on = true) → J g x w → ∃ f args, (execOp (putAll a0 (vs x)).eval oc).run P w = .ok (.enter f args) w ∧ Calls P f args w fun e w' => ∃ y, e = .returned (val y) ∧ J (upd g c) y w')
    (hstep : ∀ x, DagStepsU P .any ops (putAll a0 (vs x)) (fun g => J g x) c 0 ops.toList)
    (hend : ∀ x w, J (fun k => decide (k < ops.size)) x w → Q .normal (putAll a0 (vs x)) w) : (Code.region id ops true).wp P Q a0 w := by
  refine wp_region_any hm ?_
  refine wpAny_dagU vs J c oc val dep hns hok hk hc hcg hdep hflt hval hJ hcall hstep hend _ _ _ _ x0 (by simp [Array.toList_replicate]) ⟨by simp, rfl, rfl, fun j oj t h1 h2 h3 => ?_, fun t _ => rfl⟩ (fun j oj h1 h2 => ?_) ?_
  · by_cases hj : j < ops.size <;> simp [Array.getD, hj] at h3
  · by_cases hj : j < ops.size <;> simp [Array.getD, hj] at h2
  · have e : (fun k => (Array.replicate ops.size false).getD k false) = fun _ => false := by
      funext k
      by_cases hj : k < ops.size <;> simp [Array.getD, hj]
    rw [e]; exact h0
end Go.Proofs.YtadbbknllakpcaaGreat

/- More steps of a region looked at once each: look-ups, stores, what is skipped. No program in sight. -/
namespace Go.Proofs.YtadbbknllakpcaaGreat
open Go.RowKit
set_option linter.unusedVariables false

theorem run_storeOne {P : Program} {t : TypeId} {p : Addr} {v u : Value} {w : World} {i : TypeInfo} (hi : P.info? t = some i) (hs : i.size = 1) (hv : v.oneCell' = true) (hc : w.cell? p = some u) (hf : w.frozen? p = false) : (Instr.storeAt t (.pointer (some p)) v).run P w = .ok () (w.setCell p v) := by
  have hcells : v.cells = #[v] := by cases v <;> first | rfl | simp [Value.oneCell'] at hv
  have hadd : p.add 0 = p := by
    unfold Addr.add
    obtain ⟨b, o, s⟩ := p
    cases s <;> simp
  unfold Instr.storeAt storeVar
  simp [Instr.sureAddr, sizeOf, typeInfo, hi, hs, hcells, storeCells, run_store, hv, hadd, hc, hf, Result.andThen]
section
variable {P : Program} {md : Region.Mode} {ops : Array Oper} {F : Act} {J : (Nat → Bool) → World → Prop} {i : Nat} {o : Oper}
/-- An operation that yields nothing. -/
theorem dag_do (hw : Region.wanted o (yielded ops F.tmps) = true) (hp : F.put o.dst undef = F)
    (hx : ∀ (g : Nat → Bool) (w : World), g i = false → (∀ e ∈ o.after, Region.binds md e = true → g e.on = true) → J g w → ∃ w', (execOp F.eval o).run P w = .ok .skip w' ∧ J (upd g i) w') : DagStep P md ops F J i o := by
  refine .inl ⟨hw, fun g w h1 h2 h3 => ?_⟩
  obtain ⟨w', hr, hj⟩ := hx g w h1 h2 h3
  unfold Oper.wp
  rw [hr]
  exact ⟨hp, hj⟩
theorem dag_skip (hw : Region.wanted o (yielded ops F.tmps) = false) (hp : F.put o.dst undef = F) (hJ : ∀ (g : Nat → Bool) (w : World), J g w → J (upd g i) w) : DagStep P md ops F J i o :=
  .inr ⟨hw, hp, fun g w _ h => hJ g w h⟩
theorem dag_lookup {t : TypeId} {m x : Operand} {v1 v2 v : Value} (hw : Region.wanted o (yielded ops F.tmps) = true) (hp : F.put o.dst v = F) (ho : o.op = .lookup t m x false) (hx : F.eval m = v1) (hy : F.eval x = v2)
    (hr : ∀ (g : Nat → Bool) (w : World), g i = false → J g w → (Instr.lookup t v1 v2 false).run P w = .ok v w) (hJ : ∀ (g : Nat → Bool) (w : World), g i = false → J g w → J (upd g i) w) : DagStep P md ops F J i o := by
  refine dag_make hw hp (fun g w h1 _ h => ⟨w, ?_, hJ g w h1 h⟩)
  unfold execOp
  simp only [ho, hx, hy, Sem.run_bind, hr g w h1 h, Result.andThen_ok, Sem.run_pure]
theorem dag_update {t : TypeId} {m x y : Operand} {v1 v2 v3 : Value} (hw : Region.wanted o (yielded ops F.tmps) = true) (hp : F.put o.dst undef = F) (ho : o.op = .mapUpdate t m x y) (hx : F.eval m = v1) (hy : F.eval x = v2) (hz : F.eval y = v3)
    (hr : ∀ (g : Nat → Bool) (w : World), g i = false → (∀ e ∈ o.after, Region.binds md e = true → g e.on = true) → J g w → ∃ w', (Instr.mapUpdate t v1 v2 v3).run P w = .ok () w' ∧ J (upd g i) w') : DagStep P md ops F J i o := by
  refine dag_do hw hp (fun g w h1 h2 h => ?_)
  obtain ⟨w', hrun, hj⟩ := hr g w h1 h2 h
  refine ⟨w', ?_, hj⟩
  unfold execOp
  simp only [ho, hx, hy, hz, Sem.run_bind, hrun, Result.andThen_ok, Sem.run_pure]
theorem dag_store {t : TypeId} {x y : Operand} {v1 v2 : Value} (hw : Region.wanted o (yielded ops F.tmps) = true) (hp : F.put o.dst undef = F) (ho : o.op = .store t x y) (hx : F.eval x = v1) (hy : F.eval y = v2)
    (hr : ∀ (g : Nat → Bool) (w : World), g i = false → (∀ e ∈ o.after, Region.binds md e = true → g e.on = true) → J g w → ∃ w', (Instr.storeAt t v1 v2).run P w = .ok () w' ∧ J (upd g i) w') : DagStep P md ops F J i o := by
  refine dag_do hw hp (fun g w h1 h2 h => ?_)
  obtain ⟨w', hrun, hj⟩ := hr g w h1 h2 h
  refine ⟨w', ?_, hj⟩
  unfold execOp
  simp only [ho, hx, hy, Sem.run_bind, hrun, Result.andThen_ok, Sem.run_pure]
theorem dag_delete {t k : TypeId} {m x : Operand} {v1 v2 : Value} (hw : Region.wanted o (yielded ops F.tmps) = true) (hp : F.put o.dst (.tuple #[]) = F) (ho : o.op = .call { callee := .builtin .delete, args := #[m, x], argTypes := #[t, k] }) (hx : F.eval m = v1) (hy : F.eval x = v2)
    (hr : ∀ (g : Nat → Bool) (w : World), g i = false → (∀ e ∈ o.after, Region.binds md e = true → g e.on = true) → J g w → ∃ w', (Builtin.delete_ #[t, k] o.type #[v1, v2]).run P w = .ok (.tuple #[]) w' ∧ J (upd g i) w') : DagStep P md ops F J i o := by
  refine dag_make hw hp (fun g w h1 h2 h => ?_)
  obtain ⟨w', hrun, hj⟩ := hr g w h1 h2 h
  refine ⟨w', ?_, hj⟩
  unfold execOp
  simp only [ho, resolve, invoke, builtin, Sem.run_bind, Sem.run_pure, Result.andThen_ok, List.map_toArray, List.map_cons, List.map_nil, hx, hy, hrun]
end
end Go.Proofs.YtadbbknllakpcaaGreat

/- A region that draws its order, in which one operation alone turns the world. No program in sight. -/
namespace Go.Proofs.YtadbbknllakpcaaGreat
open Go.RowKit
set_option linter.unusedVariables false

theorem updO_ne {g : Nat → Bool} {i j : Nat} (h : (j == i) = false) : upd g i j = g j := by
  unfold upd
  rw [if_neg]
  intro e; subst e; simp at h
def OneJ (W1 : World) (c : Nat) (ds : List Nat) (P : World → Prop) (g : Nat → Bool) (w' : World) : Prop := (g c = true → ∀ d ∈ ds, g d = true) ∧ (g c = false → w' = W1) ∧ (g c = true → P w')
section
variable {W1 w' w'' : World} {c : Nat} {ds : List Nat} {P : World → Prop} {g : Nat → Bool}
theorem OneJ.start : OneJ W1 c ds P (fun _ => false) W1 := ⟨(fun h => by cases h), (fun _ => rfl), fun h => by cases h⟩
theorem OneJ.same (h : OneJ W1 c ds P g w') {i : Nat} (hi : (c == i) = false) : OneJ W1 c ds P (upd g i) w' := by
  unfold OneJ
  rw [updO_ne hi]
  refine ⟨fun h1 d hd => ?_, h.2.1, h.2.2⟩
  unfold upd
  split
  · rfl
  · exact h.1 h1 d hd
theorem OneJ.at (h : OneJ W1 c ds P g w') {d : Nat} (hd : ds.contains d = true) (hg : g d = false) : w' = W1 := by
  refine h.2.1 ?_
  cases hc : g c
  · rfl
  · have := h.1 hc d (List.contains_iff_mem.1 hd)
    rw [hg] at this; cases this
theorem OneJ.call (h : OneJ W1 c ds P g w') (hds : ∀ d ∈ ds, g d = true) (hP : P w'') : OneJ W1 c ds P (upd g c) w'' := by
  refine ⟨fun h1 d hd => ?_, fun h2 => by simp [upd] at h2, fun _ => hP⟩
  unfold upd
  split
  · rfl
  · exact hds d hd
theorem OneJ.fin {n : Nat} (h : OneJ W1 c ds P (fun k => decide (k < n)) w') (hc : decide (c < n) = true) : P w' := h.2.2 hc
end
section
variable {P : Program} {md : Region.Mode} {ops : Array Oper} {F : Act} {J : (Nat → Bool) → World → Prop} {i : Nat} {o : Oper}
/-- A load ahead of what turns the world. -/
theorem dag_loadO {t : TypeId} {d : TypeDesc} {x : Operand} {p : Addr} {v : Value} (hw : Region.wanted o (yielded ops F.tmps) = true) (hp : F.put o.dst v = F) (ho : o.op = .load t x) (hx : F.eval x = .pointer (some p)) (hu : P.underlying t = some d) (hd : (match d with | .struct _ | .array _ _ => false | _ => true) = true)
    (hc : ∀ (g : Nat → Bool) (w : World), g i = false → J g w → w.cell? p = some v) (hJ : ∀ (g : Nat → Bool) (w : World), J g w → J (upd g i) w) : DagStep P md ops F J i o := by
  refine dag_make hw hp (fun g w h1 _ h => ⟨w, ?_, hJ g w h⟩)
  unfold execOp
  simp only [ho, hx, Instr.loadAt, Instr.sureAddr, Sem.run_bind, Sem.run_pure, Result.andThen_ok, run_load1 hu hd (hc g w h1 h)]
end
end Go.Proofs.YtadbbknllakpcaaGreat

/- A region that draws its order, as XDagU: where several operations' answers are not known ahead. No program in sight. -/
namespace Go.Proofs.YtadbbknllakpcaaGreat
open Go.RowKit
set_option linter.unusedVariables false

/-- What one operation yields, a call or not. -/
def Yields (P : Program) (F : Act) (o : Oper) (w : World) (Q : Value → World → Prop) : Prop :=
  (∃ v w', (execOp F.eval o).run P w = .ok (.value v) w' ∧ Q v w') ∨ ∃ f args, (execOp F.eval o).run P w = .ok (.enter f args) w ∧ Calls P f args w fun e w' => ∃ v, e = .returned v ∧ Q v w'
def DagStepsV (P : Program) (md : Region.Mode) (ops : Array Oper) (F : Act) (J : (Nat → Bool) → World → Prop) (chs : Nat → Option (List Tmp)) : Nat → List Oper → Prop
  | _, [] => True
  | i, o :: r => ((chs i).isSome = true ∨ DagStep P md ops F J i o) ∧ DagStepsV P md ops F J chs (i + 1) r
theorem DagStepsV.at {P : Program} {md : Region.Mode} {ops : Array Oper} {F : Act} {J : (Nat → Bool) → World → Prop} {chs : Nat → Option (List Tmp)} {l : List Oper} {k : Nat} (h : DagStepsV P md ops F J chs k l) {i : Nat} {o : Oper} (hi : l[i]? = some o) : (chs (k + i)).isSome = true ∨ DagStep P md ops F J (k + i) o := by
  induction l generalizing k i with
  | nil => simp at hi
  | cons x l ih =>
    cases i with
    | zero => simp at hi; subst hi; exact h.1
    | succ i =>
      have := ih h.2 (i := i) (by simpa using hi)
      rw [show k + (i + 1) = k + 1 + i by omega]
      exact this
section
variable {P : Program} {md : Region.Mode} {ops : Array Oper} {F : Act} {J : (Nat → Bool) → World → Prop} {chs : Nat → Option (List Tmp)} {i : Nat} {o : Oper} {r : List Oper}
theorem dagV_cons (h : DagStep P md ops F J i o) (hr : DagStepsV P md ops F J chs (i + 1) r) : DagStepsV P md ops F J chs i (o :: r) := ⟨.inr h, hr⟩
theorem dagV_ch (h : (chs i).isSome = true) (hr : DagStepsV P md ops F J chs (i + 1) r) : DagStepsV P md ops F J chs i (o :: r) := ⟨.inl h, hr⟩
theorem dagV_nil : DagStepsV P md ops F J chs i [] := trivial
end
theorem wpAny_dagV {P : Program} {md : Region.Mode} {ops : Array Oper} {Q : Exit → Act → World → Prop} {a0 : Act} {U : Type} (vs : U → List (Tmp × Value)) (J : (Nat → Bool) → U → World → Prop) (chs : Nat → Option (List Tmp))
    (hns : Region.noSelect ops = true) (hok : dagOk md ops = true) (hk : ∀ x, (vs x).map (·.1) = ops.toList.filterMap (·.dst)) 
    (hch : ∀ i dep, chs i = some dep → ∃ oc, ops[i]? = some oc ∧ oc.guard = none ∧ depOk md ops i dep = true ∧ ∀ x (g : Nat → Bool) w, g i = false → (∀ e ∈ oc.after, Region.binds md e = true → g e.on = true) → J g x w →
      Yields P (putAll a0 (vs x)) oc w fun v w' => ∃ y, ((vs x).filter (fun p => !dep.contains p.1) = (vs y).filter fun p => !dep.contains p.1) ∧ (putAll a0 (vs y)).put oc.dst v = putAll a0 (vs y) ∧ J (upd g i) y w')
    (hstep : ∀ x, DagStepsV P md ops (putAll a0 (vs x)) (fun g => J g x) chs 0 ops.toList)
    (hend : ∀ x w, J (fun k => decide (k < ops.size)) x w → Q .normal (putAll a0 (vs x)) w) :
    ∀ (fuel : Nat) (listed : Array Bool) (a : Act) (w : World) (x : U), listed.toList.count false ≤ fuel → DagAt ops a0 (putAll a0 (vs x)) listed a → Closed md ops listed → J (fun k => listed.getD k false) x w → wpAny P md ops Q fuel listed a w := by
  have hsame : ∀ (dep : List Tmp) x y t, ((vs x).filter (fun p => !dep.contains p.1) = (vs y).filter fun p => !dep.contains p.1) → dep.contains t = false → (putAll a0 (vs x)).tmps[t]? = (putAll a0 (vs y)).tmps[t]? := fun dep x y t hf ht => by
    rw [← putAll_filter dep (vs x) a0 a0 rfl t ht rfl, ← putAll_filter dep (vs y) a0 a0 rfl t ht rfl, hf]
  have hsp := fun x => putAll_spec (vs x) a0
  obtain ⟨F, hF⟩ : ∃ F : U → Act, F = fun x => putAll a0 (vs x) := ⟨_, rfl⟩
  have hFx : ∀ x, putAll a0 (vs x) = F x := fun x => by rw [hF]
  simp only [hFx] at *
  clear hF
  have f2 : ∀ x, (F x).tmps.size = a0.tmps.size := fun x => (hsp x).2.1
  have f1 : ∀ x, (F x).defers = a0.defers := fun x => (hsp x).1
  have key : ∀ x t, (∀ (j : Nat) (oj : Oper), ops[j]? = some oj → oj.dst ≠ some t) → (F x).tmps[t]? = a0.tmps[t]? := fun x t ht => (hsp x).2.2 t fun hm => by
    rw [hk x] at hm
    obtain ⟨o, ho, hd⟩ := List.mem_filterMap.1 hm
    obtain ⟨j, hj⟩ := List.mem_iff_getElem?.1 ho
    exact ht j o (by simpa using hj) hd
  -- all done
  have fin : ∀ (listed : Array Bool) (a : Act) (w : World) (x : U), DagAt ops a0 (F x) listed a → (∀ j, j < ops.size → listed.getD j false = true) → J (fun k => listed.getD k false) x w → Q .normal a w := by
    intro listed a w x hd hall hJ
    have e : a = F x := by
      have ht : a.tmps = (F x).tmps := by
        apply Array.ext_getElem?
        intro t
        by_cases h : ∃ (j : Nat) (oj : Oper), ops[j]? = some oj ∧ oj.dst = some t
        · obtain ⟨j, oj, h1, h2⟩ := h
          exact hd.done j oj t h1 h2 (hall j (Array.getElem?_eq_some_iff.1 h1).1)
        · rw [hd.rest t fun j oj h1 h2 => absurd ⟨j, oj, h1, h2⟩ h, key x t fun j oj h1 h2 => h ⟨j, oj, h1, h2⟩]
      have hdf := hd.defers.trans (f1 x).symm
      generalize F x = G at *
      cases a; cases G
      simp only at ht hdf
      subst ht; subst hdf
      rfl
    rw [e]
    refine hend x w ?_
    have e2 : (fun k => listed.getD k false) = fun k => decide (k < ops.size) := by
      funext k
      by_cases hk : k < ops.size
      · rw [hall k hk, decide_eq_true hk]
      · rw [decide_eq_false hk]
        have := hd.size
        simp [Array.getD, show ¬ k < listed.size by omega]
    rw [e2] at hJ
    exact hJ
  -- none may come up: all done
  have stuck : ∀ (listed : Array Bool) (a : Act) (x : U), DagAt ops a0 (F x) listed a → Region.ready md ops listed = [] → ∀ j, j < ops.size → listed.getD j false = true := by
    intro listed a x hd hr j
    induction j using Nat.strongRecOn with
    | _ j ih =>
      intro hj
      refine Classical.byContradiction fun hn => ?_
      obtain ⟨o, ho⟩ : ∃ o, ops[j]? = some o := ⟨_, Array.getElem?_eq_getElem hj⟩
      have hmem : j ∈ Region.ready md ops listed := by
        rw [mem_ready]
        refine ⟨?_, o, ho, fun e he hb => ?_⟩
        · have := hd.size
          have h2 : listed.getD j false = false := by simpa using hn
          simp only [Array.getD, show j < listed.size by omega, dif_pos] at h2 ⊢
          exact h2
        · have hlt := (dagOk_spec hok ho).1 e he hb
          exact ih e.on hlt (by omega)
      rw [hr] at hmem
      cases hmem
  intro fuel
  induction fuel with
  | zero =>
    intro listed a w x hcn hd hcl hJw
    have hall : ∀ j, j < ops.size → listed.getD j false = true := fun j hj => by
      have h1 : List.count false listed.toList = 0 := by omega
      have h2 := List.count_eq_zero.1 h1
      have hjl : j < listed.size := by have := hd.size; omega
      cases hv : listed[j]
      · exact absurd (by rw [← hv]; simp) h2
      · simp [Array.getD, hjl, hv]
    refine ⟨?_, fin listed a w x hd hall hJw⟩
    refine List.eq_nil_iff_forall_not_mem.2 fun j hj => ?_
    obtain ⟨h1, o, ho, _⟩ := mem_ready.1 hj
    have hlt := (Array.getElem?_eq_some_iff.1 ho).1
    have h2 := hall j hlt
    have := hd.size
    simp only [Array.getD, show j < listed.size by omega, dif_pos] at h1 h2
    rw [h1] at h2; cases h2
  | succ fuel ih =>
    intro listed a w x hcn hd hcl hJw
    refine ⟨fun hr => fin listed a w x hd (stuck listed a x hd hr) hJw, fun i hi => ?_⟩
    obtain ⟨h1, o, ho, hdep1⟩ := mem_ready.1 hi
    have hlt := (Array.getElem?_eq_some_iff.1 ho).1
    have hls := hd.size
    have hil : i < listed.size := by omega
    have h1' : listed.getD i false = false := by simp only [Array.getD, hil, dif_pos] at h1 ⊢; exact h1
    have hst : (chs i).isSome = true ∨ DagStep P md ops (F x) (fun g => J g x) i o := by have := (hstep x).at (i := i) (o := o) (by simpa using ho); rw [Nat.zero_add] at this; exact this
    have hdep2 : ∀ e ∈ o.after, Region.binds md e = true → (fun k => listed.getD k false) e.on = true := hdep1
    have hcount : (listed.setIfInBounds i true).toList.count false ≤ fuel := by
      rw [Array.toList_setIfInBounds, List.count_set (by simpa using hil)]
      have hli : listed.toList[i]'(by simpa using hil) = false := by
        simp only [Array.getD, hil, dif_pos] at h1
        simpa using h1
      have hpos : 0 < listed.toList.count false := List.count_pos_iff.2 (by rw [← hli]; exact List.getElem_mem _)
      simp only [hli]
      show listed.toList.count false - 1 + 0 ≤ fuel
      omega
    -- the slots that it looks at
    have slot : ∀ t, t ∈ o.looksAt ops → a.tmps[t]? = (F x).tmps[t]? := fun t ht => by
      by_cases h : ∃ (j : Nat) (oj : Oper), ops[j]? = some oj ∧ oj.dst = some t
      · obtain ⟨j, oj, hj, hjd⟩ := h
        obtain ⟨e, he, hb, rfl⟩ := (dagOk_spec hok ho).2 j oj t hj hjd ht
        exact hd.done _ oj t hj hjd (hdep1 e he hb)
      · rw [hd.rest t fun j oj h1 h2 => absurd ⟨j, oj, h1, h2⟩ h, key x t fun j oj h1 h2 => h ⟨j, oj, h1, h2⟩]
    have hex : execOp a.eval o = execOp (F x).eval o := execOp_congr o (fun cs b => Region.noSelect_spec hns i o cs b ho) fun x hx => by
      cases x with
      | tmp t =>
        have := slot t (List.mem_append_left _ (List.mem_filterMap.2 ⟨.tmp t, by simpa using hx, rfl⟩))
        simp only [Act.eval, Array.getD_eq_getD_getElem?, this]
      | _ => rfl
    have hwt : Region.wanted o (yielded ops a.tmps) = Region.wanted o (yielded ops (F x).tmps) := by
      unfold Region.wanted
      cases hg : o.guard with
      | none => rfl
      | some gw =>
        obtain ⟨gi, want⟩ := gw
        have hy : yielded ops a.tmps gi = yielded ops (F x).tmps gi := by
          unfold yielded
          cases ht : (ops[gi]?).bind (·.dst) with
          | none => rfl
          | some t =>
            have := slot t (List.mem_append_right _ (by simp [hg, ht]))
            simp only [Option.bind_some, this]
        simp only [hy]
    have hupd : upd (fun k => listed.getD k false) i = fun k => (listed.setIfInBounds i true).getD k false := by
      funext k
      unfold upd
      by_cases hki : k = i
      · subst hki; rw [if_pos rfl]; simp [hil]
      · rw [if_neg hki, getD_set_ne false (Ne.symm hki)]
    have hcl2 : Closed md ops (listed.setIfInBounds i true) := by
      intro j oj hj hlj e he hb
      by_cases hji : j = i
      · subst hji
        cases ho.symm.trans hj
        have h5 := hdep2 e he hb
        by_cases hei : e.on = j
        · rw [hei]; simp [hil]
        · rw [getD_set_ne false (Ne.symm hei)]; exact h5
      · rw [getD_set_ne false (Ne.symm hji)] at hlj
        have h5 := hcl j oj hj hlj e he hb
        by_cases hei : e.on = i
        · rw [hei]; simp [hil]
        · rw [getD_set_ne false (Ne.symm hei)]; exact h5
    unfold wpOp
    simp only [ho, hwt]
    rcases hst with hst | hst
    · obtain ⟨dep, hdp⟩ := Option.isSome_iff_exists.1 hst
      obtain ⟨oc, hoc, hcg, hdep, hrun⟩ := hch i dep hdp
      cases ho.symm.trans hoc
      have hw : Region.wanted o (yielded ops (F x).tmps) = true := by simp [Region.wanted, hcg]
      rw [if_pos hw]
      refine .inl ?_
      -- none that leans on it is done
      have hno : ∀ (j : Nat) (oj : Oper) (t : Tmp), ops[j]? = some oj → oj.dst = some t → listed.getD j false = true → dep.contains t = false := by
        intro j
        induction j using Nat.strongRecOn with
        | _ j ihj =>
          intro oj t hj ht hl
          cases hct : dep.contains t
          · rfl
          · exfalso
            have hjc : j ≠ i := fun e => by subst e; rw [h1'] at hl; cases hl
            obtain ⟨e, he, hb, h5⟩ := depOk_spec hdep hj ht hct hjc
            have hle := hcl j oj hj hl e he hb
            have hlt2 := (dagOk_spec hok hj).1 e he hb
            rcases h5 with h5 | ⟨o', d', h6, h7, h8⟩
            · rw [h5, h1'] at hle; cases hle
            · have := ihj e.on hlt2 o' d' h6 h7 hle
              rw [this] at h8; cases h8
      have key2 : ∀ v w', (∃ y, ((vs x).filter (fun p => !dep.contains p.1) = (vs y).filter fun p => !dep.contains p.1) ∧ (F y).put o.dst v = F y ∧ J (upd (fun k => listed.getD k false) i) y w') → wpAny P md ops Q fuel (listed.setIfInBounds i true) (a.put o.dst v) w' := by
        rintro v w' ⟨y, hfl, hval, hJ'⟩
        have hd2 : DagAt ops a0 (F y) listed a := ⟨hd.size, hd.defers, hd.tmps, fun j oj t hj ht hl => (hd.done j oj t hj ht hl).trans (hsame dep x y t hfl (hno j oj t hj ht hl)), hd.rest⟩
        refine ih _ _ _ y hcount (hd2.next ho (f2 y) hval) hcl2 ?_
        rw [← hupd]; exact hJ'
      unfold Oper.wp
      rw [hex]
      rcases hrun x (fun k => listed.getD k false) w h1' hdep2 hJw with ⟨v, w', hr, hq⟩ | ⟨f, args, hr, hcalls⟩
      · rw [hr]
        exact key2 v w' hq
      · rw [hr]
        refine Calls.mono hcalls fun e w' he => ?_
        obtain ⟨v, rfl, hq⟩ := he
        exact key2 v w' hq
    · rcases hst with ⟨hw, hs⟩ | ⟨hw, hp, hs⟩
      · rw [if_pos hw]
        refine .inl ?_
        have := hs (fun k => listed.getD k false) w h1' hdep2 hJw
        unfold Oper.wp at this ⊢
        rw [hex]
        refine upon_from this fun v w' hv hJ' => ih _ _ _ x hcount (hd.next ho (f2 x) hv) hcl2 ?_
        rw [← hupd]; exact hJ'
      · rw [if_neg (by rw [hw]; exact Bool.false_ne_true)]
        refine ih _ _ _ x hcount (hd.next ho (f2 x) hp) hcl2 ?_
        rw [← hupd]; exact hs _ w h1' hJw
/-- The whole region. -/
theorem wp_dagV {P : Program} {ops : Array Oper} {Q : Exit → Act → World → Prop} {id : Nat} {a0 : Act} {w : World} {U : Type} (vs : U → List (Tmp × Value)) (J : (Nat → Bool) → U → World → Prop) (chs : Nat → Option (List Tmp)) (x0 : U) (hm : P.follows .mixedOrders = true)
    (hns : Region.noSelect ops = true) (hok : dagOk .any ops = true) (hk : ∀ x, (vs x).map (·.1) = ops.toList.filterMap (·.dst)) 
    (h0 : J (fun _ => false) x0 w.drew)
    (hch : ∀ i dep, chs i = some dep → ∃ oc, ops[i]? = some oc ∧ oc.guard = none ∧ depOk .any ops i dep = true ∧ ∀ x (g : Nat → Bool) w, g i = false → (∀ e ∈ oc.after, Region.binds .any e = true → g e.on = true) → J g x w →
      Yields P (putAll a0 (vs x)) oc w fun v w' => ∃ y, ((vs x).filter (fun p => !dep.contains p.1) = (vs y).filter fun p => !dep.contains p.1) ∧ (putAll a0 (vs y)).put oc.dst v = putAll a0 (vs y) ∧ J (upd g i) y w')
    (hstep : ∀ x, DagStepsV P .any ops (putAll a0 (vs x)) (fun g => J g x) chs 0 ops.toList)
    (hend : ∀ x w, J (fun k => decide (k < ops.size)) x w → Q .normal (putAll a0 (vs x)) w) : (Code.region id ops true).wp P Q a0 w := by
  refine wp_region_any hm ?_
  refine wpAny_dagV vs J chs hns hok hk hch hstep hend _ _ _ _ x0 (by simp [Array.toList_replicate]) ⟨by simp, rfl, rfl, fun j oj t h1 h2 h3 => ?_, fun t _ => rfl⟩ (fun j oj h1 h2 => ?_) ?_
  · by_cases hj : j < ops.size <;> simp [Array.getD, hj] at h3
  · by_cases hj : j < ops.size <;> simp [Array.getD, hj] at h2
  · have e : (fun k => (Array.replicate ops.size false).getD k false) = fun _ => false := by
      funext k
      by_cases hj : k < ops.size <;> simp [Array.getD, hj]
    rw [e]; exact h0
end Go.Proofs.YtadbbknllakpcaaGreat

/- A drawn region with operations of unknown answers, which may be guarded. No program in sight. -/
namespace Go.Proofs.YtadbbknllakpcaaGreat
open Go.RowKit
set_option linter.unusedVariables false

theorem wpAny_dagW {P : Program} {md : Region.Mode} {ops : Array Oper} {Q : Exit → Act → World → Prop} {a0 : Act} {U : Type} (vs : U → List (Tmp × Value)) (J : (Nat → Bool) → U → World → Prop) (chs : Nat → Option (List Tmp))
    (hns : Region.noSelect ops = true) (hok : dagOk md ops = true) (hk : ∀ x, (vs x).map (·.1) = ops.toList.filterMap (·.dst)) 
    (hch : ∀ i dep, chs i = some dep → ∃ oc, ops[i]? = some oc ∧ (∀ x, Region.wanted oc (yielded ops (putAll a0 (vs x)).tmps) = true) ∧ depOk md ops i dep = true ∧ ∀ x (g : Nat → Bool) w, g i = false → (∀ e ∈ oc.after, Region.binds md e = true → g e.on = true) → J g x w →
      Yields P (putAll a0 (vs x)) oc w fun v w' => ∃ y, ((vs x).filter (fun p => !dep.contains p.1) = (vs y).filter fun p => !dep.contains p.1) ∧ (putAll a0 (vs y)).put oc.dst v = putAll a0 (vs y) ∧ J (upd g i) y w')
    (hstep : ∀ x, DagStepsV P md ops (putAll a0 (vs x)) (fun g => J g x) chs 0 ops.toList)
    (hend : ∀ x w, J (fun k => decide (k < ops.size)) x w → Q .normal (putAll a0 (vs x)) w) :
    ∀ (fuel : Nat) (listed : Array Bool) (a : Act) (w : World) (x : U), listed.toList.count false ≤ fuel → DagAt ops a0 (putAll a0 (vs x)) listed a → Closed md ops listed → J (fun k => listed.getD k false) x w → wpAny P md ops Q fuel listed a w := by
  have hsame : ∀ (dep : List Tmp) x y t, ((vs x).filter (fun p => !dep.contains p.1) = (vs y).filter fun p => !dep.contains p.1) → dep.contains t = false → (putAll a0 (vs x)).tmps[t]? = (putAll a0 (vs y)).tmps[t]? := fun dep x y t hf ht => by
    rw [← putAll_filter dep (vs x) a0 a0 rfl t ht rfl, ← putAll_filter dep (vs y) a0 a0 rfl t ht rfl, hf]
  have hsp := fun x => putAll_spec (vs x) a0
  obtain ⟨F, hF⟩ : ∃ F : U → Act, F = fun x => putAll a0 (vs x) := ⟨_, rfl⟩
  have hFx : ∀ x, putAll a0 (vs x) = F x := fun x => by rw [hF]
  simp only [hFx] at *
  clear hF
  have f2 : ∀ x, (F x).tmps.size = a0.tmps.size := fun x => (hsp x).2.1
  have f1 : ∀ x, (F x).defers = a0.defers := fun x => (hsp x).1
  have key : ∀ x t, (∀ (j : Nat) (oj : Oper), ops[j]? = some oj → oj.dst ≠ some t) → (F x).tmps[t]? = a0.tmps[t]? := fun x t ht => (hsp x).2.2 t fun hm => by
    rw [hk x] at hm
    obtain ⟨o, ho, hd⟩ := List.mem_filterMap.1 hm
    obtain ⟨j, hj⟩ := List.mem_iff_getElem?.1 ho
    exact ht j o (by simpa using hj) hd
  -- all done
  have fin : ∀ (listed : Array Bool) (a : Act) (w : World) (x : U), DagAt ops a0 (F x) listed a → (∀ j, j < ops.size → listed.getD j false = true) → J (fun k => listed.getD k false) x w → Q .normal a w := by
    intro listed a w x hd hall hJ
    have e : a = F x := by
      have ht : a.tmps = (F x).tmps := by
        apply Array.ext_getElem?
        intro t
        by_cases h : ∃ (j : Nat) (oj : Oper), ops[j]? = some oj ∧ oj.dst = some t
        · obtain ⟨j, oj, h1, h2⟩ := h
          exact hd.done j oj t h1 h2 (hall j (Array.getElem?_eq_some_iff.1 h1).1)
        · rw [hd.rest t fun j oj h1 h2 => absurd ⟨j, oj, h1, h2⟩ h, key x t fun j oj h1 h2 => h ⟨j, oj, h1, h2⟩]
      have hdf := hd.defers.trans (f1 x).symm
      generalize F x = G at *
      cases a; cases G
      simp only at ht hdf
      subst ht; subst hdf
      rfl
    rw [e]
    refine hend x w ?_
    have e2 : (fun k => listed.getD k false) = fun k => decide (k < ops.size) := by
      funext k
      by_cases hk : k < ops.size
      · rw [hall k hk, decide_eq_true hk]
      · rw [decide_eq_false hk]
        have := hd.size
        simp [Array.getD, show ¬ k < listed.size by omega]
    rw [e2] at hJ
    exact hJ
  -- none may come up: all done
  have stuck : ∀ (listed : Array Bool) (a : Act) (x : U), DagAt ops a0 (F x) listed a → Region.ready md ops listed = [] → ∀ j, j < ops.size → listed.getD j false = true := by
    intro listed a x hd hr j
    induction j using Nat.strongRecOn with
    | _ j ih =>
      intro hj
      refine Classical.byContradiction fun hn => ?_
      obtain ⟨o, ho⟩ : ∃ o, ops[j]? = some o := ⟨_, Array.getElem?_eq_getElem hj⟩
      have hmem : j ∈ Region.ready md ops listed := by
        rw [mem_ready]
        refine ⟨?_, o, ho, fun e he hb => ?_⟩
        · have := hd.size
          have h2 : listed.getD j false = false := by simpa using hn
          simp only [Array.getD, show j < listed.size by omega, dif_pos] at h2 ⊢
          exact h2
        · have hlt := (dagOk_spec hok ho).1 e he hb
          exact ih e.on hlt (by omega)
      rw [hr] at hmem
      cases hmem
  intro fuel
  induction fuel with
  | zero =>
    intro listed a w x hcn hd hcl hJw
    have hall : ∀ j, j < ops.size → listed.getD j false = true := fun j hj => by
      have h1 : List.count false listed.toList = 0 := by omega
      have h2 := List.count_eq_zero.1 h1
      have hjl : j < listed.size := by have := hd.size; omega
      cases hv : listed[j]
      · exact absurd (by rw [← hv]; simp) h2
      · simp [Array.getD, hjl, hv]
    refine ⟨?_, fin listed a w x hd hall hJw⟩
    refine List.eq_nil_iff_forall_not_mem.2 fun j hj => ?_
    obtain ⟨h1, o, ho, _⟩ := mem_ready.1 hj
    have hlt := (Array.getElem?_eq_some_iff.1 ho).1
    have h2 := hall j hlt
    have := hd.size
    simp only [Array.getD, show j < listed.size by omega, dif_pos] at h1 h2
    rw [h1] at h2; cases h2
  | succ fuel ih =>
    intro listed a w x hcn hd hcl hJw
    refine ⟨fun hr => fin listed a w x hd (stuck listed a x hd hr) hJw, fun i hi => ?_⟩
    obtain ⟨h1, o, ho, hdep1⟩ := mem_ready.1 hi
    have hlt := (Array.getElem?_eq_some_iff.1 ho).1
    have hls := hd.size
    have hil : i < listed.size := by omega
    have h1' : listed.getD i false = false := by simp only [Array.getD, hil, dif_pos] at h1 ⊢; exact h1
    have hst : (chs i).isSome = true ∨ DagStep P md ops (F x) (fun g => J g x) i o := by have := (hstep x).at (i := i) (o := o) (by simpa using ho); rw [Nat.zero_add] at this; exact this
    have hdep2 : ∀ e ∈ o.after, Region.binds md e = true → (fun k => listed.getD k false) e.on = true := hdep1
    have hcount : (listed.setIfInBounds i true).toList.count false ≤ fuel := by
      rw [Array.toList_setIfInBounds, List.count_set (by simpa using hil)]
      have hli : listed.toList[i]'(by simpa using hil) = false := by
        simp only [Array.getD, hil, dif_pos] at h1
        simpa using h1
      have hpos : 0 < listed.toList.count false := List.count_pos_iff.2 (by rw [← hli]; exact List.getElem_mem _)
      simp only [hli]
      show listed.toList.count false - 1 + 0 ≤ fuel
      omega
    -- the slots that it looks at
    have slot : ∀ t, t ∈ o.looksAt ops → a.tmps[t]? = (F x).tmps[t]? := fun t ht => by
      by_cases h : ∃ (j : Nat) (oj : Oper), ops[j]? = some oj ∧ oj.dst = some t
      · obtain ⟨j, oj, hj, hjd⟩ := h
        obtain ⟨e, he, hb, rfl⟩ := (dagOk_spec hok ho).2 j oj t hj hjd ht
        exact hd.done _ oj t hj hjd (hdep1 e he hb)
      · rw [hd.rest t fun j oj h1 h2 => absurd ⟨j, oj, h1, h2⟩ h, key x t fun j oj h1 h2 => h ⟨j, oj, h1, h2⟩]
    have hex : execOp a.eval o = execOp (F x).eval o := execOp_congr o (fun cs b => Region.noSelect_spec hns i o cs b ho) fun x hx => by
      cases x with
      | tmp t =>
        have := slot t (List.mem_append_left _ (List.mem_filterMap.2 ⟨.tmp t, by simpa using hx, rfl⟩))
        simp only [Act.eval, Array.getD_eq_getD_getElem?, this]
      | _ => rfl
    have hwt : Region.wanted o (yielded ops a.tmps) = Region.wanted o (yielded ops (F x).tmps) := by
      unfold Region.wanted
      cases hg : o.guard with
      | none => rfl
      | some gw =>
        obtain ⟨gi, want⟩ := gw
        have hy : yielded ops a.tmps gi = yielded ops (F x).tmps gi := by
          unfold yielded
          cases ht : (ops[gi]?).bind (·.dst) with
          | none => rfl
          | some t =>
            have := slot t (List.mem_append_right _ (by simp [hg, ht]))
            simp only [Option.bind_some, this]
        simp only [hy]
    have hupd : upd (fun k => listed.getD k false) i = fun k => (listed.setIfInBounds i true).getD k false := by
      funext k
      unfold upd
      by_cases hki : k = i
      · subst hki; rw [if_pos rfl]; simp [hil]
      · rw [if_neg hki, getD_set_ne false (Ne.symm hki)]
    have hcl2 : Closed md ops (listed.setIfInBounds i true) := by
      intro j oj hj hlj e he hb
      by_cases hji : j = i
      · subst hji
        cases ho.symm.trans hj
        have h5 := hdep2 e he hb
        by_cases hei : e.on = j
        · rw [hei]; simp [hil]
        · rw [getD_set_ne false (Ne.symm hei)]; exact h5
      · rw [getD_set_ne false (Ne.symm hji)] at hlj
        have h5 := hcl j oj hj hlj e he hb
        by_cases hei : e.on = i
        · rw [hei]; simp [hil]
        · rw [getD_set_ne false (Ne.symm hei)]; exact h5
    unfold wpOp
    simp only [ho, hwt]
    rcases hst with hst | hst
    · obtain ⟨dep, hdp⟩ := Option.isSome_iff_exists.1 hst
      obtain ⟨oc, hoc, hcg, hdep, hrun⟩ := hch i dep hdp
      cases ho.symm.trans hoc
      have hw : Region.wanted o (yielded ops (F x).tmps) = true := hcg x
      rw [if_pos hw]
      refine .inl ?_
      -- none that leans on it is done
      have hno : ∀ (j : Nat) (oj : Oper) (t : Tmp), ops[j]? = some oj → oj.dst = some t → listed.getD j false = true → dep.contains t = false := by
        intro j
        induction j using Nat.strongRecOn with
        | _ j ihj =>
          intro oj t hj ht hl
          cases hct : dep.contains t
          · rfl
          · exfalso
            have hjc : j ≠ i := fun e => by subst e; rw [h1'] at hl; cases hl
            obtain ⟨e, he, hb, h5⟩ := depOk_spec hdep hj ht hct hjc
            have hle := hcl j oj hj hl e he hb
            have hlt2 := (dagOk_spec hok hj).1 e he hb
            rcases h5 with h5 | ⟨o', d', h6, h7, h8⟩
            · rw [h5, h1'] at hle; cases hle
            · have := ihj e.on hlt2 o' d' h6 h7 hle
              rw [this] at h8; cases h8
      have key2 : ∀ v w', (∃ y, ((vs x).filter (fun p => !dep.contains p.1) = (vs y).filter fun p => !dep.contains p.1) ∧ (F y).put o.dst v = F y ∧ J (upd (fun k => listed.getD k false) i) y w') → wpAny P md ops Q fuel (listed.setIfInBounds i true) (a.put o.dst v) w' := by
        rintro v w' ⟨y, hfl, hval, hJ'⟩
        have hd2 : DagAt ops a0 (F y) listed a := ⟨hd.size, hd.defers, hd.tmps, fun j oj t hj ht hl => (hd.done j oj t hj ht hl).trans (hsame dep x y t hfl (hno j oj t hj ht hl)), hd.rest⟩
        refine ih _ _ _ y hcount (hd2.next ho (f2 y) hval) hcl2 ?_
        rw [← hupd]; exact hJ'
      unfold Oper.wp
      rw [hex]
      rcases hrun x (fun k => listed.getD k false) w h1' hdep2 hJw with ⟨v, w', hr, hq⟩ | ⟨f, args, hr, hcalls⟩
      · rw [hr]
        exact key2 v w' hq
      · rw [hr]
        refine Calls.mono hcalls fun e w' he => ?_
        obtain ⟨v, rfl, hq⟩ := he
        exact key2 v w' hq
    · rcases hst with ⟨hw, hs⟩ | ⟨hw, hp, hs⟩
      · rw [if_pos hw]
        refine .inl ?_
        have := hs (fun k => listed.getD k false) w h1' hdep2 hJw
        unfold Oper.wp at this ⊢
        rw [hex]
        refine upon_from this fun v w' hv hJ' => ih _ _ _ x hcount (hd.next ho (f2 x) hv) hcl2 ?_
        rw [← hupd]; exact hJ'
      · rw [if_neg (by rw [hw]; exact Bool.false_ne_true)]
        refine ih _ _ _ x hcount (hd.next ho (f2 x) hp) hcl2 ?_
        rw [← hupd]; exact hs _ w h1' hJw
/-- The whole region. -/
theorem wp_dagW {P : Program} {ops : Array Oper} {Q : Exit → Act → World → Prop} {id : Nat} {a0 : Act} {w : World} {U : Type} (vs : U → List (Tmp × Value)) (J : (Nat → Bool) → U → World → Prop) (chs : Nat → Option (List Tmp)) (x0 : U) (hm : P.follows .mixedOrders = true)
    (hns : Region.noSelect ops = true) (hok : dagOk .any ops = true) (hk : ∀ x, (vs x).map (·.1) = ops.toList.filterMap (·.dst)) 
    (h0 : J (fun _ => false) x0 w.drew)
    (hch : ∀ i dep, chs i = some dep → ∃ oc, ops[i]? = some oc ∧ (∀ x, Region.wanted oc (yielded ops (putAll a0 (vs x)).tmps) = true) ∧ depOk .any ops i dep = true ∧ ∀ x (g : Nat → Bool) w, g i = false → (∀ e ∈ oc.after, Region.binds .any e = true → g e.on = true) → J g x w →
      Yields P (putAll a0 (vs x)) oc w fun v w' => ∃ y, ((vs x).filter (fun p => !dep.contains p.1) = (vs y).filter fun p => !dep.contains p.1) ∧ (putAll a0 (vs y)).put oc.dst v = putAll a0 (vs y) ∧ J (upd g i) y w')
    (hstep : ∀ x, DagStepsV P .any ops (putAll a0 (vs x)) (fun g => J g x) chs 0 ops.toList)
    (hend : ∀ x w, J (fun k => decide (k < ops.size)) x w → Q .normal (putAll a0 (vs x)) w) : (Code.region id ops true).wp P Q a0 w := by
  refine wp_region_any hm ?_
  refine wpAny_dagW vs J chs hns hok hk hch hstep hend _ _ _ _ x0 (by simp [Array.toList_replicate]) ⟨by simp, rfl, rfl, fun j oj t h1 h2 h3 => ?_, fun t _ => rfl⟩ (fun j oj h1 h2 => ?_) ?_
  · by_cases hj : j < ops.size <;> simp [Array.getD, hj] at h3
  · by_cases hj : j < ops.size <;> simp [Array.getD, hj] at h2
  · have e : (fun k => (Array.replicate ops.size false).getD k false) = fun _ => false := by
      funext k
      by_cases hj : k < ops.size <;> simp [Array.getD, hj]
    rw [e]; exact h0
end Go.Proofs.YtadbbknllakpcaaGreat
