/- The walk of SlotsBack. -/
import Derived.Test.YtajfigihliafeaaGive
import Derived.Test.YtajfigihliafeaaStep
namespace Go.Proofs.Ytajfigihliafeaa
open Go.RowKit
set_option linter.unusedVariables false

/-- What is known of the slots that were taken. -/
def TkI (m : Nat) (f : Nat → Bool) (zs : List Int) (j : Nat) : Prop :=
  zs.length = j ∧ (∀ z ∈ zs, 0 ≤ z ∧ z < m) ∧ zs.Nodup ∧ (∀ i : Nat, f i = memB zs i) ∧ cntF f m = j
theorem memB_snoc (zs : List Int) (z y : Int) : memB (zs ++ [z]) y = (memB zs y || y == z) := by unfold memB; rw [List.any_append]; simp
theorem memB_not {zs : List Int} {y : Int} (h : y ∉ zs) : memB zs y = false := by
  cases hm : memB zs y
  · rfl
  · exact absurd ((memB_iff zs y).1 hm) h
theorem TkI.start (m : Nat) : TkI m (fun _ => false) [] 0 := ⟨rfl, by simp, List.nodup_nil, fun i => (by simp [memB]), cntF_none m⟩
theorem TkI.next {m : Nat} {f : Nat → Bool} {zs : List Int} {j x : Nat} (h : TkI m f zs j) (hx : x < m) (hf : f x = false) : TkI m (put f x true) (zs ++ [(x : Int)]) (j + 1) := by
  obtain ⟨h1, h2, h3, h4, h5⟩ := h
  have hnot : (x : Int) ∉ zs := fun hm => by rw [h4 x, (memB_iff zs x).2 hm] at hf; cases hf
  refine ⟨by simp [h1], fun z hz => ?_, ?_, fun i => ?_, ?_⟩
  · rcases List.mem_append.1 hz with hz | hz
    · exact h2 z hz
    · rw [List.mem_singleton.1 hz]; omega
  · exact List.nodup_append.2 ⟨h3, by simp, fun a ha b hb => by rw [List.mem_singleton.1 hb]; rintro rfl; exact hnot ha⟩
  · rw [memB_snoc]
    unfold put
    by_cases e : i = x
    · rw [if_pos e, e]; simp
    · rw [if_neg e, h4 i]
      have : ((i : Int) == (x : Int)) = false := by rw [beq_eq_false_iff_ne]; omega
      rw [this, Bool.or_false]
  · rw [cntF_set f x m hf hx, h5]
theorem TkI.has {m : Nat} {f : Nat → Bool} {zs : List Int} {j : Nat} (h : TkI m f zs j) {z : Int} (hz : z ∈ zs) : hasB m f z = true := by
  obtain ⟨x, rfl⟩ := Int.eq_ofNat_of_zero_le (h.2.1 z hz).1
  rw [hasB_nat m f x (by have := h.2.1 _ hz; omega), h.2.2.2.1 x]
  exact (memB_iff zs _).2 hz
theorem TkI.le {m : Nat} {f : Nat → Bool} {zs : List Int} {j : Nat} (h : TkI m f zs j) : j ≤ m := by rw [← h.2.2.2.2]; exact cntF_le f m
theorem TkI.bounds {m : Nat} {f : Nat → Bool} {zs : List Int} {j : Nat} (h : TkI m f zs j) (hm : m ≤ 1000) : ∀ z ∈ zs, -9223372036854775808 ≤ z ∧ z ≤ 9223372036854775807 := fun z hz => by have := h.2.1 z hz; omega
/-- What is given twice at once. -/
theorem TkI.twice {m : Nat} {f : Nat → Bool} {zs : List Int} {j : Nat} (h : TkI m f zs j) {z : Int} (hz : z ∈ zs) : ¬ GvTo m f (zs ++ [z]) (zs ++ [z]).length := fun hg => by
  have := (hg zs.length z (by simp) (by simp)).2
  rw [List.take_left] at this
  rw [(memB_iff zs z).2 hz] at this
  cases this
theorem TkI.half {m : Nat} {f : Nat → Bool} {zs : List Int} {j : Nat} (h : TkI m f zs j) (k : Nat) : GvTo m f (zs.take k) (zs.take k).length := fun i z hi hz => by
  have hm : z ∈ zs := List.mem_of_mem_take (List.mem_of_getElem? hz)
  refine ⟨h.has hm, memB_not fun hin => ?_⟩
  have hnd : (zs.take k).Nodup := h.2.2.1.sublist (List.take_sublist _ _)
  obtain ⟨hlt, he⟩ := List.getElem?_eq_some_iff.1 hz
  rw [List.mem_iff_getElem] at hin
  obtain ⟨i', hi', he'⟩ := hin
  rw [List.length_take] at hi'
  rw [List.getElem_take] at he'
  have := (List.getElem_inj (i := i') (j := i) (h₀ := by omega) (h₁ := hlt) hnd).1 (he'.trans he.symm)
  omega
theorem memB_take_drop (zs : List Int) (k : Nat) (y : Int) : memB zs y = (memB (zs.take k) y || memB (zs.drop k) y) := by
  unfold memB
  rw [← List.any_append, List.take_append_drop]
theorem TkI.apart {m : Nat} {f : Nat → Bool} {zs : List Int} {j : Nat} (h : TkI m f zs j) (k : Nat) {y : Int} (hy : memB (zs.drop k) y = true) : memB (zs.take k) y = false := memB_not fun hin => by
  have hd := (memB_iff _ _).1 hy
  have hnd := h.2.2.1
  rw [← List.take_append_drop k zs] at hnd
  exact (List.nodup_append.1 hnd).2.2 y hin y hd rfl
theorem TkI.rest {m : Nat} {f : Nat → Bool} {zs : List Int} {j : Nat} (h : TkI m f zs j) (k : Nat) (i : Nat) : clrL f (zs.take k) i = memB (zs.drop k) i := by
  unfold clrL
  rw [h.2.2.2.1 i, memB_take_drop zs k i]
  cases hd : memB (zs.drop k) (i : Int)
  · cases memB (zs.take k) (i : Int) <;> rfl
  · rw [h.apart k hd]; rfl
theorem TkI.rest_tk {m : Nat} {f : Nat → Bool} {zs : List Int} {j : Nat} (h : TkI m f zs j) (k : Nat) (hk : k ≤ j) (hc : cntF (clrL f (zs.take k)) m = j - k) : TkI m (clrL f (zs.take k)) (zs.drop k) (j - k) :=
  ⟨by rw [List.length_drop, h.1], fun z hz => h.2.1 z (List.mem_of_mem_drop hz), h.2.2.1.sublist (List.drop_sublist _ _), fun i => h.rest k i, hc⟩
theorem cntF_clrL {m : Nat} {f : Nat → Bool} {zs : List Int} {j : Nat} (h : TkI m f zs j) : ∀ k, k ≤ j → cntF (clrL f (zs.take k)) m + k = j := by
  intro k
  induction k with
  | zero => intro _; rw [List.take_zero, clrL_nil, h.2.2.2.2]; rfl
  | succ k ih =>
    intro hk
    have ih := ih (by omega)
    have hl := h.1
    have hz : zs[k]? = some (zs[k]'(by omega)) := List.getElem?_eq_getElem (by omega)
    generalize zs[k]'(by omega) = z at hz
    obtain ⟨hlt, he⟩ := List.getElem?_eq_some_iff.1 hz
    have hb := h.2.1 z (List.mem_of_getElem? hz)
    obtain ⟨x, rfl⟩ := Int.eq_ofNat_of_zero_le hb.1
    have hx : clrL f (zs.take k) x = true := by
      rw [h.rest k x]
      exact (memB_iff _ _).2 (by rw [List.drop_eq_getElem_cons hlt, he]; exact List.mem_cons_self)
    have hts : clrL f (zs.take (k + 1)) = put (clrL f (zs.take k)) x false := by rw [List.take_add_one, hz]; exact clrL_snoc f _ x
    have := cntF_put (clrL f (zs.take k)) x hx m (by omega)
    rw [← hts] at this
    omega
theorem clrL_all {m : Nat} {f : Nat → Bool} {zs : List Int} {j : Nat} (h : TkI m f zs j) : clrL f zs = fun _ => false := funext fun i => by
  unfold clrL; rw [h.2.2.2.1 i]; simp
end Go.Proofs.Ytajfigihliafeaa
