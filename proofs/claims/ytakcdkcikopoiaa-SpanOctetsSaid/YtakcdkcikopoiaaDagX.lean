/- A region that draws its order, calls and all, when the values are not known ahead: what each done operation yielded is kept in a record. No program in sight. -/
import Derived.Test.YtakcdkcikopoiaaDagK
namespace Go.Proofs.Ytakcdkcikopoiaa
open Go.RowKit
set_option linter.unusedVariables false

def setR (rc : Nat → Option Value) (i : Nat) (v : Value) : Nat → Option Value := fun j => if j = i then some v else rc j
theorem setR_same (rc : Nat → Option Value) (i : Nat) (v : Value) : setR rc i v i = some v := if_pos rfl
theorem setR_other (rc : Nat → Option Value) {i j : Nat} (v : Value) (h : j ≠ i) : setR rc i v j = rc j := if_neg h
/-- The frame fits the record. -/
structure Fits (ops : Array Oper) (a0 : Act) (rc : Nat → Option Value) (a : Act) : Prop where
  defers : a.defers = a0.defers
  size : a.tmps.size = a0.tmps.size
  done : ∀ (j : Nat) (oj : Oper) (t : Tmp) (v : Value), ops[j]? = some oj → oj.dst = some t → rc j = some v → t < a0.tmps.size → a.tmps[t]? = some v
  rest : ∀ t, (∀ (j : Nat) (oj : Oper), ops[j]? = some oj → oj.dst = some t → rc j = none) → a.tmps[t]? = a0.tmps[t]?
theorem Fits.slot {ops : Array Oper} {a0 a : Act} {rc : Nat → Option Value} (h : Fits ops a0 rc a) {j : Nat} {oj : Oper} {t : Tmp} {v : Value} (hj : ops[j]? = some oj) (ht : oj.dst = some t) (hv : rc j = some v) (hs : t < a0.tmps.size) : a.eval (.tmp t) = v := by
  have := h.done j oj t v hj ht hv hs
  simp only [Act.eval, Array.getD_eq_getD_getElem?, this, Option.getD_some]
theorem Fits.old {ops : Array Oper} {a0 a : Act} {rc : Nat → Option Value} (h : Fits ops a0 rc a) {t : Tmp} (ht : (ops.toList.filterMap (·.dst)).contains t = false) : a.eval (.tmp t) = a0.eval (.tmp t) := by
  have := h.rest t fun j oj hj hd => by
    exfalso
    have hm : t ∈ ops.toList.filterMap (·.dst) := List.mem_filterMap.2 ⟨oj, by have := List.mem_of_getElem? (l := ops.toList) (i := j) (a := oj) (by simpa using hj); exact this, hd⟩
    rw [List.contains_iff_mem.2 hm] at ht; cases ht
  simp only [Act.eval, Array.getD_eq_getD_getElem?, this]
def dstsApart (ops : Array Oper) : Bool :=
  (List.range ops.size).all fun i => (List.range ops.size).all fun j => decide (i = j) || match ops[i]?, ops[j]? with
    | some o, some o' => match o.dst, o'.dst with
      | some d, some d' => d != d'
      | _, _ => true
    | _, _ => true
theorem dstsApart_spec {ops : Array Oper} (h : dstsApart ops = true) {i j : Nat} {o o' : Oper} {d : Tmp} (hi : ops[i]? = some o) (hj : ops[j]? = some o') (h1 : o.dst = some d) (h2 : o'.dst = some d) : j = i := by
  have li := (Array.getElem?_eq_some_iff.1 hi).1
  have lj := (Array.getElem?_eq_some_iff.1 hj).1
  have := List.all_eq_true.1 (List.all_eq_true.1 h i (List.mem_range.2 li)) j (List.mem_range.2 lj)
  simp only [hi, hj, h1, h2, bne_self_eq_false, Bool.or_false, decide_eq_true_eq] at this
  exact this.symm
theorem Fits.next {ops : Array Oper} {a0 a : Act} {rc : Nat → Option Value} {i : Nat} {o : Oper} {v : Value} (h : Fits ops a0 rc a) (hi : ops[i]? = some o) (hd : dstsApart ops = true) : Fits ops a0 (setR rc i v) (a.put o.dst v) := by
  refine ⟨?_, ?_, fun j oj t u hj ht hu hs => ?_, fun t ht => ?_⟩
  · have := h.defers
    cases hd : o.dst <;> simpa [Act.put, hd] using this
  · have := h.size
    cases hd : o.dst <;> simpa [Act.put, hd] using this
  · by_cases hji : j = i
    · subst hji
      cases hi.symm.trans hj
      rw [setR_same] at hu
      cases hu
      simp only [ht, Act.put]
      rw [Array.getElem?_setIfInBounds_self_of_lt (by rw [h.size]; exact hs)]
    · rw [setR_other _ _ hji] at hu
      have h1 := h.done j oj t u hj ht hu hs
      cases hod : o.dst with
      | none => simpa [Act.put] using h1
      | some d =>
        have e : d ≠ t := fun e => by subst e; exact hji (dstsApart_spec hd hi hj hod ht)
        simp only [Act.put]
        rw [Array.getElem?_setIfInBounds_ne e]; exact h1
  · have h1 := h.rest t fun j oj hj hjt => by
      by_cases hji : j = i
      · subst hji
        have := ht j oj hj hjt
        rw [setR_same] at this; cases this
      · have := ht j oj hj hjt
        rw [setR_other _ _ hji] at this; exact this
    cases hod : o.dst with
    | none => simpa [Act.put] using h1
    | some d =>
      have e : d ≠ t := fun e => by
        subst e
        have := ht i o hi hod
        rw [setR_same] at this; cases this
      simp only [Act.put]
      rw [Array.getElem?_setIfInBounds_ne e]; exact h1
/-- Every operation comes behind those that it waits for. -/
def dagUp (md : Region.Mode) (ops : Array Oper) : Bool :=
  (List.range ops.size).all fun i => match ops[i]? with
    | none => true
    | some o => o.after.all (fun e => !Region.binds md e || decide (e.on < i))
theorem dagUp_spec {md : Region.Mode} {ops : Array Oper} (h : dagUp md ops = true) {i : Nat} {o : Oper} (hi : ops[i]? = some o) : ∀ e ∈ o.after, Region.binds md e = true → e.on < i := by
  have hlt := (Array.getElem?_eq_some_iff.1 hi).1
  have h1 := List.all_eq_true.1 h i (List.mem_range.2 hlt)
  rw [hi] at h1
  intro e he hb
  have := Array.all_eq_true_iff_forall_mem.1 h1 e he
  rw [hb] at this
  simpa using this
/-- What is asked of one operation. -/
def XStep (P : Program) (md : Region.Mode) (ops : Array Oper) (a0 : Act) (J : (Nat → Option Value) → World → Prop) (i : Nat) (o : Oper) : Prop :=
  ∀ (rc : Nat → Option Value) (a : Act) (w : World), rc i = none → (∀ e ∈ o.after, Region.binds md e = true → (rc e.on).isSome = true) → Fits ops a0 rc a → J rc w →
    o.guard = none ∧ o.wp P a w (fun a' w' => ∃ v, a' = a.put o.dst v ∧ J (setR rc i v) w') (fun _ _ _ => False)
def XSteps (P : Program) (md : Region.Mode) (ops : Array Oper) (a0 : Act) (J : (Nat → Option Value) → World → Prop) : Nat → List Oper → Prop
  | _, [] => True
  | i, o :: r => XStep P md ops a0 J i o ∧ XSteps P md ops a0 J (i + 1) r
theorem xcons {P : Program} {md : Region.Mode} {ops : Array Oper} {a0 : Act} {J : (Nat → Option Value) → World → Prop} {i : Nat} {o : Oper} {r : List Oper} (h : XStep P md ops a0 J i o) (hr : XSteps P md ops a0 J (i + 1) r) : XSteps P md ops a0 J i (o :: r) := ⟨h, hr⟩
theorem xnil {P : Program} {md : Region.Mode} {ops : Array Oper} {a0 : Act} {J : (Nat → Option Value) → World → Prop} {i : Nat} : XSteps P md ops a0 J i [] := trivial
theorem XSteps.at {P : Program} {md : Region.Mode} {ops : Array Oper} {a0 : Act} {J : (Nat → Option Value) → World → Prop} {l : List Oper} {k : Nat} (h : XSteps P md ops a0 J k l) {i : Nat} {o : Oper} (hi : l[i]? = some o) : XStep P md ops a0 J (k + i) o := by
  induction l generalizing k i with
  | nil => simp at hi
  | cons x l ih =>
    cases i with
    | zero => simp at hi; subst hi; exact h.1
    | succ i =>
      have := ih h.2 (i := i) (by simpa using hi)
      rw [show k + (i + 1) = k + 1 + i by omega]
      exact this
theorem upon_x {P : Program} {o : Oper} {a : Act} {J : Value → World → Prop} {K : Act → World → Prop} {Q : Exit → Act → World → Prop} {r : Result Next}
    (h : o.upon P a (fun a' w' => ∃ v, a' = a.put o.dst v ∧ J v w') (fun _ _ _ => False) r) (hK : ∀ v w', J v w' → K (a.put o.dst v) w') : o.upon P a K Q r := by
  cases r with
  | ok n w' =>
    cases n <;> simp only [Oper.upon] at h ⊢
    case value u => obtain ⟨v, e, h⟩ := h; rw [e]; exact hK _ _ h
    case skip => obtain ⟨v, e, h⟩ := h; rw [e]; exact hK _ _ h
    case defer d =>
      exfalso
      obtain ⟨v, e, _⟩ := h
      have := congrArg (fun x : Act => x.defers.length) e
      cases hd : o.dst <;> simp [Act.put, hd] at this
    case enter f args =>
      refine Calls.mono h fun e w'' he => ?_
      cases e with
      | returned u => obtain ⟨v, e, h⟩ := he; show K (a.put o.dst u) w''; rw [e]; exact hK _ _ h
      | panicked c => exact he.elim
      | outgrown => exact (by obtain ⟨_, _, h⟩ := he; exact h.elim)
    case row row args => exact Rows.mono h fun u w'' he => by obtain ⟨v, e, h⟩ := he; rw [e]; exact hK _ _ h
  | halt x w' => cases x <;> simp only [Oper.upon] at h ⊢
theorem wpAny_dagX {P : Program} {md : Region.Mode} {ops : Array Oper} {Q : Exit → Act → World → Prop} {a0 : Act} (J : (Nat → Option Value) → World → Prop)
    (hup : dagUp md ops = true) (hd : dstsApart ops = true) (hstep : XSteps P md ops a0 J 0 ops.toList)
    (hend : ∀ rc a w, (∀ j, j < ops.size → (rc j).isSome = true) → Fits ops a0 rc a → J rc w → Q .normal a w) :
    ∀ (fuel : Nat) (listed : Array Bool) (rc : Nat → Option Value) (a : Act) (w : World), listed.size = ops.size → listed.toList.count false ≤ fuel → (∀ j, listed.getD j false = (rc j).isSome) → Fits ops a0 rc a → J rc w → wpAny P md ops Q fuel listed a w := by
  have stuck : ∀ (listed : Array Bool), listed.size = ops.size → Region.ready md ops listed = [] → ∀ j, j < ops.size → listed.getD j false = true := by
    intro listed hls hr j
    induction j using Nat.strongRecOn with
    | _ j ih =>
      intro hj
      refine Classical.byContradiction fun hn => ?_
      obtain ⟨o, ho⟩ : ∃ o, ops[j]? = some o := ⟨_, Array.getElem?_eq_getElem hj⟩
      have hmem : j ∈ Region.ready md ops listed := by
        rw [mem_ready]
        refine ⟨?_, o, ho, fun e he hb => ?_⟩
        · have h2 : listed.getD j false = false := by simpa using hn
          simp only [Array.getD, show j < listed.size by omega, dif_pos] at h2 ⊢
          exact h2
        · have hlt := dagUp_spec hup ho e he hb
          exact ih e.on hlt (by omega)
      rw [hr] at hmem
      cases hmem
  intro fuel
  induction fuel with
  | zero =>
    intro listed rc a w hls hc hL hF hJ
    have hall : ∀ j, j < ops.size → listed.getD j false = true := fun j hj => by
      have h1 : List.count false listed.toList = 0 := by omega
      have h2 := List.count_eq_zero.1 h1
      have hjl : j < listed.size := by omega
      cases hv : listed[j]
      · exact absurd (by rw [← hv]; simp) h2
      · simp [Array.getD, hjl, hv]
    refine ⟨?_, hend rc a w (fun j hj => by rw [← hL]; exact hall j hj) hF hJ⟩
    refine List.eq_nil_iff_forall_not_mem.2 fun j hj => ?_
    obtain ⟨h1, o, ho, _⟩ := mem_ready.1 hj
    have hlt := (Array.getElem?_eq_some_iff.1 ho).1
    have h2 := hall j hlt
    simp only [Array.getD, show j < listed.size by omega, dif_pos] at h1 h2
    rw [h1] at h2; cases h2
  | succ fuel ih =>
    intro listed rc a w hls hc hL hF hJ
    refine ⟨fun hr => hend rc a w (fun j hj => by rw [← hL]; exact stuck listed hls hr j hj) hF hJ, fun i hi => ?_⟩
    obtain ⟨h1, o, ho, hdep⟩ := mem_ready.1 hi
    have hlt := (Array.getElem?_eq_some_iff.1 ho).1
    have hil : i < listed.size := by omega
    have h1' : listed.getD i false = false := by simp only [Array.getD, hil, dif_pos] at h1 ⊢; exact h1
    have hst : XStep P md ops a0 J i o := by have := hstep.at (i := i) (o := o) (by simpa using ho); rw [Nat.zero_add] at this; exact this
    have hcount : (listed.setIfInBounds i true).toList.count false ≤ fuel := by
      rw [Array.toList_setIfInBounds, List.count_set (by simpa using hil)]
      have hli : listed.toList[i]'(by simpa using hil) = false := by
        simp only [Array.getD, hil, dif_pos] at h1
        simpa using h1
      have hpos : 0 < listed.toList.count false := List.count_pos_iff.2 (by rw [← hli]; exact List.getElem_mem _)
      simp only [hli]
      show listed.toList.count false - 1 + 0 ≤ fuel
      omega
    have hrn : rc i = none := by
      have := hL i
      rw [h1'] at this
      cases hr : rc i
      · rfl
      · rw [hr] at this; cases this
    obtain ⟨hg, hw⟩ := hst rc a w hrn (fun e he hb => by rw [← hL]; exact hdep e he hb) hF hJ
    have hwt : Region.wanted o (yielded ops a.tmps) = true := by simp [Region.wanted, hg]
    unfold wpOp
    simp only [ho, hwt]
    rw [if_pos trivial]
    refine .inl ?_
    unfold Oper.wp at hw ⊢
    refine upon_x hw fun v w' hJ' => ih _ _ _ _ (by simpa using hls) hcount (fun j => ?_) (hF.next ho hd) hJ'
    by_cases hji : j = i
    · subst hji; rw [setR_same]; simp [hil]
    · rw [setR_other _ _ hji, getD_set_ne false (Ne.symm hji)]; exact hL j
/-- The whole region. -/
theorem wp_dagX {P : Program} {ops : Array Oper} {Q : Exit → Act → World → Prop} {id : Nat} {a0 : Act} {w : World} (J : (Nat → Option Value) → World → Prop) (hm : P.follows .mixedOrders = true)
    (hup : dagUp .any ops = true) (hd : dstsApart ops = true) (h0 : J (fun _ => none) w.drew) (hstep : XSteps P .any ops a0 J 0 ops.toList)
    (hend : ∀ rc a w, (∀ j, j < ops.size → (rc j).isSome = true) → Fits ops a0 rc a → J rc w → Q .normal a w) : (Code.region id ops true).wp P Q a0 w := by
  refine wp_region_any hm ?_
  refine wpAny_dagX J hup hd hstep hend _ _ (fun _ => none) _ _ (by simp) (by simp [Array.toList_replicate]) (fun j => ?_) ⟨rfl, rfl, (fun j oj t v _ _ h => by cases h), (fun t _ => rfl)⟩ h0
  by_cases hj : j < ops.size <;> simp [Array.getD, hj]
/-- A frame that fits a whole record is the frame with these values. -/
theorem Fits.all {ops : Array Oper} {a0 a : Act} {rc : Nat → Option Value} (h : Fits ops a0 rc a) (vs : List (Tmp × Value)) (hk : vs.map (·.1) = ops.toList.filterMap (·.dst)) (hs : ∀ p ∈ vs, (putAll a0 vs).tmps[p.1]? = some p.2)
    (hv : ∀ p ∈ vs, ∃ (j : Nat) (oj : Oper), ops[j]? = some oj ∧ oj.dst = some p.1 ∧ rc j = some p.2 ∧ p.1 < a0.tmps.size) : a = putAll a0 vs := by
  obtain ⟨f1, f2, f3⟩ := putAll_spec vs a0
  have ht : a.tmps = (putAll a0 vs).tmps := by
    apply Array.ext_getElem?
    intro t
    by_cases hm : t ∈ vs.map (·.1)
    · obtain ⟨p, hp, rfl⟩ := List.mem_map.1 hm
      obtain ⟨j, oj, h1, h2, h3, h4⟩ := hv p hp
      rw [hs p hp]
      exact h.done j oj p.1 p.2 h1 h2 h3 h4
    · rw [f3 t hm]
      refine h.rest t fun j oj hj hd => ?_
      exfalso
      refine hm ?_
      rw [hk]
      exact List.mem_filterMap.2 ⟨oj, List.mem_of_getElem? (l := ops.toList) (i := j) (by simpa using hj), hd⟩
  have hdf := h.defers.trans f1.symm
  generalize putAll a0 vs = F at *
  cases a; cases F
  simp only at ht hdf
  subst ht; subst hdf
  rfl
end Go.Proofs.Ytakcdkcikopoiaa
