/- The document's Runs: the rows of free pages, page by page. -/
import Derived.Test.YtfacpamepkkhgaaRunD
namespace Go.Proofs.Ytfacpamepkkhgaa
open Go.RowKit
set_option linter.unusedVariables false

/-- The rows of the free pages below i. -/
def StepInv (f : Nat → Bool) (i : Nat) (l : List (Nat × Nat)) : Prop := Canon l ∧ (∀ j, Fr l j ↔ 1 ≤ j ∧ j < i ∧ f j = false) ∧ ∀ a ∈ l, a.1 + a.2 ≤ i
theorem step_start (f : Nat → Bool) : StepInv f 1 [] := ⟨⟨fun a h => (by cases h), List.Pairwise.nil⟩, fun j => ⟨fun ⟨q, hq, _⟩ => (by cases hq), fun h => by omega⟩, fun a h => by cases h⟩
theorem step_taken {f : Nat → Bool} {i : Nat} {l : List (Nat × Nat)} (h : StepInv f i l) (hf : f i = true) : StepInv f (i + 1) l := by
  obtain ⟨h1, h2, h3⟩ := h
  refine ⟨h1, fun j => ?_, fun a ha => by have := h3 a ha; omega⟩
  rw [h2 j]
  constructor
  · rintro ⟨g1, g2, g3⟩; exact ⟨g1, by omega, g3⟩
  · rintro ⟨g1, g2, g3⟩
    refine ⟨g1, ?_, g3⟩
    by_cases e : j = i
    · subst e; rw [hf] at g3; cases g3
    · omega
theorem step_new {f : Nat → Bool} {i : Nat} {l : List (Nat × Nat)} (h : StepInv f i l) (hf : f i = false) (hp : f (i - 1) = true) (h1 : 1 ≤ i) (h4 : i < 4096) : StepInv f (i + 1) (l ++ [(i, 1)]) := by
  obtain ⟨hc, h2, h3⟩ := h
  have hlt : ∀ a ∈ l, a.1 + a.2 < i := fun a ha => by
    have g1 := h3 a ha
    have g2 := hc.1 a ha
    refine Classical.byContradiction fun hn => ?_
    have := (h2 (i - 1)).1 ⟨a, ha, by omega, by omega⟩
    rw [hp] at this
    cases this.2.2
  refine ⟨⟨fun a ha => ?_, ?_⟩, fun j => ?_, fun a ha => ?_⟩
  · rcases List.mem_append.1 ha with h | h
    · exact hc.1 a h
    · obtain rfl := List.mem_singleton.1 h; simp only; omega
  · rw [List.pairwise_append]
    refine ⟨hc.2, List.pairwise_singleton _ _, fun a ha b hb => ?_⟩
    obtain rfl := List.mem_singleton.1 hb
    exact hlt a ha
  · rw [Fr_append, h2 j, Fr_cons]
    constructor
    · rintro (⟨g1, g2, g3⟩ | g | ⟨q, hq, _⟩)
      · exact ⟨g1, by omega, g3⟩
      · simp only at g
        obtain rfl : j = i := by omega
        exact ⟨h1, by omega, hf⟩
      · cases hq
    · rintro ⟨g1, g2, g3⟩
      by_cases e : j = i
      · exact .inr (.inl (by simp only; omega))
      · exact .inl ⟨g1, by omega, g3⟩
  · rcases List.mem_append.1 ha with h | h
    · have := h3 a h; omega
    · obtain rfl := List.mem_singleton.1 h; simp only; omega
theorem step_more {f : Nat → Bool} {i : Nat} {l : List (Nat × Nat)} (h : StepInv f i l) (hf : f i = false) (hp : f (i - 1) = false) (h0 : f 0 = true) (h1 : 1 ≤ i) (h4 : i < 4096) :
    ∃ l0 p, l = l0 ++ [p] ∧ p.2 ≤ 4096 ∧ StepInv f (i + 1) (l0 ++ [(p.1, p.2 + 1)]) := by
  obtain ⟨hc, h2, h3⟩ := h
  have hi1 : i ≠ 1 := fun e => by subst e; simp at hp; rw [h0] at hp; cases hp
  obtain ⟨q, hq, hq1, hq2⟩ := (h2 (i - 1)).2 ⟨by omega, by omega, hp⟩
  have hne : l ≠ [] := fun e => by subst e; cases hq
  obtain ⟨l0, p, rfl⟩ : ∃ l0 p, l = l0 ++ [p] := ⟨l.dropLast, l.getLast hne, (List.dropLast_concat_getLast hne).symm⟩
  have hpq : q = p := by
    rcases List.mem_append.1 hq with h | h
    · have := (List.pairwise_append.1 hc.2).2.2 q h p (List.mem_singleton_self _)
      have h5 := h3 p (List.mem_append_right _ (List.mem_singleton_self _))
      have h6 := hc.1 p (List.mem_append_right _ (List.mem_singleton_self _))
      omega
    · exact List.mem_singleton.1 h
  subst hpq
  have he := h3 q hq
  have hqb := hc.1 q hq
  have hlow : ∀ a ∈ l0, a.1 + a.2 < q.1 := fun a ha => (List.pairwise_append.1 hc.2).2.2 a ha q (List.mem_singleton_self _)
  refine ⟨l0, q, rfl, by omega, ⟨fun a ha => ?_, ?_⟩, fun j => ?_, fun a ha => ?_⟩
  · rcases List.mem_append.1 ha with h | h
    · exact hc.1 a (List.mem_append_left _ h)
    · obtain rfl := List.mem_singleton.1 h; simp only; omega
  · rw [List.pairwise_append]
    refine ⟨(List.pairwise_append.1 hc.2).1, List.pairwise_singleton _ _, fun a ha b hb => ?_⟩
    obtain rfl := List.mem_singleton.1 hb
    exact hlow a ha
  · have hj := h2 j
    rw [Fr_append, Fr_cons] at hj ⊢
    constructor
    · rintro (g | g | ⟨r, hr, _⟩)
      · have := hj.1 (.inl g); exact ⟨this.1, by omega, this.2.2⟩
      · simp only at g
        by_cases e : j = i
        · subst e; exact ⟨h1, by omega, hf⟩
        · have := hj.1 (.inr (.inl (by omega))); exact ⟨this.1, by omega, this.2.2⟩
      · cases hr
    · rintro ⟨g1, g2, g3⟩
      by_cases e : j = i
      · exact .inr (.inl (by simp only; omega))
      · rcases hj.2 ⟨g1, by omega, g3⟩ with g | g | ⟨r, hr, _⟩
        · exact .inl g
        · exact .inr (.inl (by simp only; omega))
        · cases hr
  · rcases List.mem_append.1 ha with h | h
    · have := h3 a (List.mem_append_left _ h); omega
    · obtain rfl := List.mem_singleton.1 h; simp only; omega
/-- The rows of what is free. -/
def RelF (l : List (Nat × Nat)) (f : Nat → Bool) : Prop := Canon l ∧ f 0 = true ∧ ∀ j, Fr l j ↔ 1 ≤ j ∧ j < 4096 ∧ f j = false
theorem StepInv.rel {f : Nat → Bool} {l : List (Nat × Nat)} (h : StepInv f 4096 l) (h0 : f 0 = true) : RelF l f := ⟨h.1, h0, h.2.1⟩
theorem RelF.eq {l m : List (Nat × Nat)} {f : Nat → Bool} (h : RelF l f) (h' : RelF m f) : l = m := h.1.ext h'.1 fun j => by rw [h.2.2, h'.2.2]
theorem step_len {f : Nat → Bool} {i : Nat} {l : List (Nat × Nat)} (h : StepInv f i l) : l.length ≤ 2048 := h.1.len
theorem rowsV_bump (l : List (Nat × Nat)) (p : Nat × Nat) (v : Int) : (rowsV (l ++ [p])).set (l.length * 2 + 1) (.int .i64 v) = rowsV l ++ [.int .i64 (p.1 : Nat), .int .i64 v] := by
  rw [rowsV_append, List.set_append_right _ _ (by rw [rowsV_length]; omega), rowsV_length, show l.length * 2 + 1 - l.length * 2 = 1 by omega]
  rfl
theorem rowsV_new (l : List (Nat × Nat)) (a b v : Int) : (rowsV l ++ [Value.int .i64 a, Value.int .i64 b]).set (l.length * 2 + 1) (Value.int .i64 v) = rowsV l ++ [Value.int .i64 a, Value.int .i64 v] := by
  rw [List.set_append_right _ _ (by rw [rowsV_length]; omega), rowsV_length, show l.length * 2 + 1 - l.length * 2 = 1 by omega]
  rfl
set_option maxRecDepth 20000 in
set_option maxHeartbeats 8000000 in
theorem rruns_calls (w : World) (R T : Nat) (f : Nat → Bool) (l : List (Nat × Nat)) (hR : RefAt w R T f) (hl : RelF l f) :
    Calls Try.prog 17 #[.pointer (some ⟨R, 0, none⟩)] w fun e w' => ∃ v, e = .returned v ∧ w'.ownsRow w.heap.size 35 2 v l.length (rowsV l) ∧ Below w.heap.size w w' := by
  obtain ⟨i0, hi, hz0, hz1, hz2⟩ := info_parts Try.info_Row
  have HR := Lib.hid hR
  have HRl := Lib.hid hl
  have hll := hR.lt
  clear hR hl
  go_enter Try.func17, Try.ntmps17
  go_wp2_with fail
  go_loopg [3, 4] 4095 (fun q v i wr => ∃ (j : Nat) (m : List (Nat × Nat)), q + j = 4096 ∧ 1 ≤ j ∧ i = .int .i64 j ∧ Hid (StepInv f j m) ∧ Hid (wr.ownsRow w.heap.size 35 2 v m.length (rowsV m)) ∧ Hid (Below w.heap.size w wr))
  case atStart => exact ⟨1, [], by omega, by omega, rfl, Lib.hid (step_start f), Lib.hid (World.ownsRow_nil _ _ _ _), Lib.hid (Below.refl _ _)⟩
  case round =>
    obtain ⟨j, m, hq, hj1, rfl, hinv, hown, hb⟩ := hrel
    have HRr := Lib.hid (HR.out.below hb.out)
    have hbs := hb.out.size
    have c0 := HRr.out.head
    have hml := step_len hinv.out
    by_cases hlt : j < 4096
    · have hbit := HRr.out.bit hlt
      have hbit2 := HRr.out.bit (i := j - 1) (by omega)
      have hj2 : (j : Int) - 1 = ((j - 1 : Nat) : Int) := by omega
      have hj3 : j - 1 < 4096 := by omega
      cases hf : f j
      · rw [hf] at hbit
        cases hp : f (j - 1)
        · obtain ⟨l0, p, rfl, hp2, hnext⟩ := step_more hinv.out hf hp HRl.out.2.1 hj1 hlt
          rw [hp] at hbit2
          have HN := Lib.hid hnext
          have hlen : (l0 ++ [p]).length = l0.length + 1 := by simp
          obtain ⟨k, hk⟩ : ∃ k, l0.length = k := ⟨_, rfl⟩
          have HK := Lib.hid hk
          rw [hk] at hlen
          rw [hlen] at hown hml
          obtain ⟨B, cc, rfl⟩ := ownsRow_slice hown.out
          obtain ⟨b, rfl, hbh, hblt, hcell⟩ := (ownsRow_rd hown.out).resolve_left (by omega)
          have k1 := hcell (k * 2 + 1) (.int .i64 (p.2 : Nat)) (by rw [rowsV_append, ← hk, List.getElem?_append_right (by rw [rowsV_length]; omega), rowsV_length]; simp [rowsV])
          have kz := hown.out.frozenAt (k * 2 + 1)
          have hk2 : (k : Int) + 1 - 1 = ((k : Nat) : Int) := by omega
          clear hf hp hinv hcell hnext hk
          go_wp2
          go_roundg (4096 - (j + 1))
          case measure => omega
          case rel =>
            have h1 := (hown.out.stored (k * 2 + 1) (.int .i64 ((p.2 : Int) + 1))).1
            rw [← HK.out, rowsV_bump] at h1
            refine ⟨j + 1, l0 ++ [(p.1, p.2 + 1)], by omega, by omega, by go_num, HN, Lib.hid ?_, Lib.hid (hb.out.setCell (p := ⟨b, k * 2 + 1, none⟩) hbh _)⟩
            rw [rowsV_append, List.length_append, ← HK.out]
            exact h1
        · rw [hp] at hbit2
          have HN := Lib.hid (step_new hinv.out hf hp hj1 hlt)
          obtain ⟨k, hk⟩ : ∃ k, m.length = k := ⟨_, rfl⟩
          have HK := Lib.hid hk
          rw [hk] at hown hml
          have hk2 : (k : Int) + 1 - 1 = ((k : Nat) : Int) := by omega
          clear hf hp hinv hk
          go_wp2_with (at_builtin; refine wpList_append_new rfl (.tmp 24) (.tmp 27) 32 rfl w.heap.size 35 i0 _ 2 16 Try.underlying32 hi hz0 hz1 hz2 rfl (by decide) u3 _ 1 _ rfl hown.out rfl rfl (two_one _ _) (by omega) (by unfold maxLen; omega) (by omega) ?_; intro v2 w3 hown2 hgr2 hnew2; obtain ⟨B2, c2, rfl⟩ := ownsRow_slice hown2; obtain ⟨b2, rfl, hb2, hblt2, hcell2⟩ := (ownsRow_rd hown2).resolve_left (by omega); have k1 := hcell2 (k * 2 + 1) (.int .i64 0) (by rw [← HK.out, List.getElem?_append_right (by rw [rowsV_length]; omega), rowsV_length]; simp); have kz := hown2.frozenAt (k * 2 + 1); have HO2 := Lib.hid hown2; have HB3 := Lib.hid (app_next hb.out hown.out hgr2); clear hown2 hgr2 hnew2 hcell2)
          go_roundg (4096 - (j + 1))
          case measure => omega
          case rel =>
            have h1 := (HO2.out.stored (k * 2 + 1) (.int .i64 1)).1
            rw [← HK.out] at h1
            have h2 := rowsV_new m (j : Int) 0 1
            refine ⟨j + 1, m ++ [(j, 1)], by omega, by omega, by go_num, HN, Lib.hid ?_, Lib.hid (HB3.out.setCell (p := ⟨b2, k * 2 + 1, none⟩) hb2 _)⟩
            rw [rowsV_append, List.length_append, ← HK.out]
            rw [h2] at h1
            exact h1
      · rw [hf] at hbit
        have HN := Lib.hid (step_taken hinv.out hf)
        clear hf hinv hbit2
        go_wp2
        go_roundg (4096 - (j + 1))
        case measure => omega
        case rel => exact ⟨j + 1, m, by omega, by omega, by go_num, HN, hown, hb⟩
    · obtain rfl : j = 4096 := by omega
      obtain rfl := (hinv.out.rel HRl.out.2.1).eq HRl.out
      go_wp2
      go_ret
      exact ⟨_, rfl, hown.out, hb.out⟩
end Go.Proofs.Ytfacpamepkkhgaa
