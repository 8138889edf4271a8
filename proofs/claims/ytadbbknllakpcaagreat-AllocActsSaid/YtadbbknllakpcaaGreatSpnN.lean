/- The walks through package span: Large, New. -/
import Derived.Test.YtadbbknllakpcaaGreatSpnR
namespace Go.Proofs.YtadbbknllakpcaaGreat
open Go.RowKit
set_option linter.unusedVariables false

/-- The bits of one word, 1. -/
def bit0 (i : Nat) : Bool := decide (i = 0)
theorem wd_bit0 : wd bit0 0 = 1 := by decide +kernel
theorem bit0_out (i : Nat) (h : 1 ≤ i) : bit0 i = false := decide_eq_false (by omega)
theorem wdV_one1 : wdV 1 bit0 = [.int .u64 1] := by unfold wdV fnV; simp [wd_bit0]
theorem words_one (w : World) : WordsAt (w.alloc (.cells #[.int .u64 1] 64)) (some ⟨w.heap.size, 0, none⟩) 1 bit0 :=
  ⟨by rw [wdV_one1]; exact RdAt.of_blk (Blk.new w #[.int .u64 1] 64), fun i hi => bit0_out i (by omega), by omega⟩
theorem eq1_bit0 : eq1B 1 bit0 = true := decide_eq_true ⟨rfl, wd_bit0⟩
/-- What Large, and New, answer: a span with one object, or nothing. -/
def MadeR (pg ps cl : Int) (b : Bool) (w : World) (e : Ending) (w' : World) : Prop :=
  Below w.heap.size w w' ∧ ((b = false ∧ e = .returned (.tuple #[spV 0 0 0 none 0 0, .int .i64 2])) ∨
    ∃ A cap, b = true ∧ e = .returned (.tuple #[spV pg ps cl A 1 cap, .int .i64 0]) ∧ WordsAt w' A 1 bit0 ∧ (∀ x o, A = some ⟨x, o, none⟩ → w.heap.size ≤ x) ∧ cap = 1)
def largeB (pg ps : Int) : Bool := placedB pg ps && decide (3 ≤ ps)
theorem large_iff (pg ps : Int) : rightP pg ps 255 1 bit0 ↔ largeB pg ps = true := by
  unfold rightP largeB
  rw [Bool.and_eq_true, decide_eq_true_iff]
  constructor
  · rintro ⟨h1, ⟨_, h2, _⟩ | ⟨h2, _⟩⟩
    · exact ⟨h1, h2⟩
    · exact absurd rfl h2
  · rintro ⟨h1, h2⟩
    exact ⟨h1, .inl ⟨rfl, h2, eq1_bit0⟩⟩
set_option maxHeartbeats 1000000 in
theorem slarge_calls (pg ps : Int) (w : World) (h1 : I64 pg) (h2 : I64 ps) :
    Calls Tryz.prog 60 #[.int .i64 pg, .int .i64 ps] w (MadeR pg ps 255 (largeB pg ps) w) := by
  have H1 := Lib.hid h1
  have H2 := Lib.hid h2
  go_enter Tryz.func60, Tryz.ntmps60
  go_wp2_with fail
  obtain ⟨w3, hw3⟩ : ∃ w3, ((w.alloc (.cells #[.int .i64 0, .int .i64 0, .int .i64 0, .slice none 0 0] 27)).alloc (.cells #[.int .u64 1] 64)).alloc (.cells #[.int .i64 pg, .int .i64 ps, .int .i64 255, .slice (some ⟨w.heap.size + 1, 0, none⟩) 1 1] 27) = w3 := ⟨_, rfl⟩
  have hR : Blk w3 w.heap.size [.int .i64 0, .int .i64 0, .int .i64 0, .slice none 0 0] 27 := by
    rw [← hw3]; exact ((Blk.new w #[.int .i64 0, .int .i64 0, .int .i64 0, .slice none 0 0] 27).alloc _).alloc _
  have hS : Blk w3 (w.heap.size + 1 + 1) [.int .i64 pg, .int .i64 ps, .int .i64 255, .slice (some ⟨w.heap.size + 1, 0, none⟩) 1 1] 27 := by
    rw [← hw3]
    have := Blk.new ((w.alloc (.cells #[.int .i64 0, .int .i64 0, .int .i64 0, .slice none 0 0] 27)).alloc (.cells #[.int .u64 1] 64)) #[.int .i64 pg, .int .i64 ps, .int .i64 255, .slice (some ⟨w.heap.size + 1, 0, none⟩) 1 1] 27
    simpa using this
  have hWd : WordsAt w3 (some ⟨w.heap.size + 1, 0, none⟩) 1 bit0 := by
    rw [← hw3]
    have := (words_one (w.alloc (.cells #[.int .i64 0, .int .i64 0, .int .i64 0, .slice none 0 0] 27))).alloc (.cells #[.int .i64 pg, .int .i64 ps, .int .i64 255, .slice (some ⟨w.heap.size + 1, 0, none⟩) 1 1] 27)
    simpa using this
  have hB3 : Below w.heap.size w w3 := by
    rw [← hw3]; exact (((Below.refl _ _).alloc (Nat.le_refl _) _).alloc (by simp) _).alloc (by simp; omega) _
  rw [hw3]
  have HWd := Lib.hid hWd
  have HB3 := Lib.hid hB3
  have HR := Lib.hid hR
  have HS := Lib.hid hS
  have hz := hR.lt
  have hz2 := hS.lt
  clear hw3 hR hS hWd hB3
  refine (right_calls pg ps 255 (some ⟨w.heap.size + 1, 0, none⟩) 1 1 bit0 w3 H1.out H2.out (by unfold I64; omega) HWd.out).mono ?_
  rintro e w4 ⟨b, rfl, hb, hb4⟩
  have hR4 := HR.out.below hb4
  have hS4 := HS.out.below hb4
  have r0 := hR4.cell 0
  have r1 := hR4.cell 1
  have r2 := hR4.cell 2
  have r3 := hR4.cell 3
  have q0 := hR4.free 0
  have q1 := hR4.free 1
  have q2 := hR4.free 2
  have q3 := hR4.free 3
  have s0 := hS4.cell 0
  have s1 := hS4.cell 1
  have s2 := hS4.cell 2
  have s3 := hS4.cell 3
  simp at r0 r1 r2 r3 s0 s1 s2 s3
  have HW4 := Lib.hid (HWd.out.below hb4)
  have HB4 := Lib.hid (bel_next HB3.out hb4 (by omega))
  have hz4 := hb4.size
  rw [large_iff] at hb
  have HBb := Lib.hid hb
  clear hb hb4 hR4 hS4
  cases b
  · have hno : largeB pg ps = false := by
      cases h : largeB pg ps
      · rfl
      · exact (HBb.out.2 h).symm ▸ rfl
    have HNo := Lib.hid hno
    clear hno
    go_wp2
    refine bodyPost_ret (v := .tuple #[spV 0 0 0 none 0 0, .int .i64 2]) (by simp [spV, results, Tryz.results60, go_sem, r0, r1, r2, r3]) rfl ?_
    refine ⟨?_, .inl ⟨HNo.out, rfl⟩⟩
    exact (((HB4.out.setCell (p := ⟨w.heap.size, 0, none⟩) (Nat.le_refl _) _).setCell (p := ⟨w.heap.size, 1, none⟩) (Nat.le_refl _) _).setCell (p := ⟨w.heap.size, 2, none⟩) (Nat.le_refl _) _).setCell (p := ⟨w.heap.size, 3, none⟩) (Nat.le_refl _) _
  · have hyes : largeB pg ps = true := HBb.out.1 rfl
    have HY := Lib.hid hyes
    clear hyes
    go_wp2
    refine bodyPost_ret (v := .tuple #[spV pg ps 255 (some ⟨w.heap.size + 1, 0, none⟩) 1 1, .int .i64 0]) (by simp [spV, results, Tryz.results60, go_sem, r0, r1, r2, r3]) rfl ?_
    have hbl := (((HB4.out.setCell (p := ⟨w.heap.size, 0, none⟩) (Nat.le_refl _) (.int .i64 pg)).setCell (p := ⟨w.heap.size, 1, none⟩) (Nat.le_refl _) (.int .i64 ps)).setCell (p := ⟨w.heap.size, 2, none⟩) (Nat.le_refl _) (.int .i64 255)).setCell (p := ⟨w.heap.size, 3, none⟩) (Nat.le_refl _) (.slice (some ⟨w.heap.size + 1, 0, none⟩) 1 1)
    refine ⟨hbl, .inr ⟨_, _, HY.out, rfl, ?_, fun x o he => by cases he; omega, rfl⟩⟩
    refine ⟨?_, HW4.out.2⟩
    obtain ⟨b', o', he, hlt, hc⟩ := HW4.out.1.resolve_left (by omega)
    cases he
    refine .inr ⟨_, _, rfl, by simpa [World.setCell] using hlt, fun i u hu => ?_⟩
    have := hc i u hu
    simpa [go_sem] using this

def newB (pg c : Int) : Bool := placedB pg (pagesL c)
theorem perN_pos (c : Int) (h : sizeL c ≠ 0) : c ≠ 255 ∧ perS c = perL c ∧ 1 ≤ perN c := by
  have := cls_facts c h
  have hc : c ≠ 255 := by omega
  refine ⟨hc, if_neg hc, ?_⟩
  have e := perN_cast c
  unfold perS at e
  rw [if_neg hc] at e
  omega
theorem new_iff (pg c : Int) : rightP pg (pagesL c) c 1 bit0 ↔ (c ≠ 255 ∧ newB pg c = true) ∨ (c = 255 ∧ False) := by
  unfold rightP newB
  constructor
  · rintro ⟨h1, ⟨h2, h3, _⟩ | ⟨h2, _⟩⟩
    · rw [h2, pagesL_big 255 (by omega)] at h3; omega
    · exact .inl ⟨h2, h1⟩
  · rintro (⟨h1, h2⟩ | ⟨_, h⟩)
    · have hs : sizeL c ≠ 0 := fun h => by
        rw [pagesL_zero c h] at h2
        have := of_decide_eq_true h2
        omega
      obtain ⟨_, _, hp⟩ := perN_pos c hs
      have hle := perN_le c
      refine ⟨h2, .inr ⟨h1, hs, rfl, ⟨by unfold wn; omega, fun i hi => bit0_out i (by omega)⟩, ?_⟩⟩
      rw [show perN c = (perN c - 1) + 1 by omega]
      have : cntF bit0 1 ≤ cntF bit0 (perN c - 1 + 1) := by
        have key : ∀ m, cntF bit0 1 ≤ cntF bit0 (m + 1) := by
          intro m
          induction m with
          | zero => exact Nat.le_refl _
          | succ m ih => have : cntF bit0 (m + 1) ≤ cntF bit0 (m + 1 + 1) := by simp only [cntF]; omega
                         omega
        exact key _
      have h1 : cntF bit0 1 = 1 := by decide
      omega
    · exact h.elim
theorem newB_pos {pg c : Int} (h : newB pg c = true) : sizeL c ≠ 0 := fun hz => by
  unfold newB at h
  rw [pagesL_zero c hz] at h
  have := of_decide_eq_true h
  omega
set_option maxHeartbeats 2000000 in
theorem new_calls (pg cl : Int) (w : World) (h1 : I64 pg) (h2 : I64 cl) :
    Calls Tryz.prog 29 #[.int .i64 pg, .int .i64 cl] w (MadeR pg (pagesL cl) cl (newB pg cl) w) := by
  have H1 := Lib.hid h1
  have H2 := Lib.hid h2
  have hpb := pagesL_bd cl
  have hcase : (perL cl = 0 ∧ ¬ 0 < perL cl) ∨ (0 < perL cl ∧ (perL cl - 1) / 64 = 0 ∧ 0 ≤ perL cl - 1) := by
    by_cases h : sizeL cl = 0
    · left; unfold perL; rw [if_pos h]; exact ⟨rfl, by omega⟩
    · have := cls_facts cl h; right; omega
  by_cases hc : cl = 255
  · subst hc
    have HN := Lib.hid (show newB pg 255 = false by
      cases h : newB pg 255
      · rfl
      · exact absurd (sizeL_big 255 (by omega)) (newB_pos h))
    have e1 : perL 255 = 0 := by decide
    have e2 : pagesL 255 = 0 := by decide
    have P1 : ∀ w : World, Calls Tryz.prog 28 #[.int .i64 255] w fun e w' => e = .returned (.int .i64 0) ∧ w = w' := fun w => by rw [← e2]; exact pages_calls 255 w (by omega) (by omega)
    have P2 : ∀ w : World, Calls Tryz.prog 65 #[.int .i64 255] w fun e w' => e = .returned (.int .i64 0) ∧ w = w' := fun w => by rw [← e1]; exact per_calls 255 w (by omega) (by omega)
    have HP1 := Lib.hid P1
    have HP2 := Lib.hid P2
    clear e1 e2 P1 P2 hcase hpb
    go_enter Tryz.func29, Tryz.ntmps29
    go_wp2_with (first | (go_at_call 28; refine (HP1.out _).mono ?_; rintro e w' ⟨rfl, rfl⟩) | (go_at_call 65; refine (HP2.out _).mono ?_; rintro e w' ⟨rfl, rfl⟩))
    refine bodyPost_ret (v := .tuple #[spV 0 0 0 none 0 0, .int .i64 2]) (by simp [spV, results, Tryz.results29, go_sem]) rfl ?_
    refine ⟨?_, .inl ⟨HN.out, rfl⟩⟩
    exact (((Below.refl _ _).alloc (Nat.le_refl _) _).alloc (by simp) _).alloc (by simp; omega) _
  · have hcb : (cl == 255) = false := by simpa using hc
    have HC := Lib.hid hc
    clear hc
    rcases hcase with ⟨hp0, hp1⟩ | ⟨hp0, hp1, hp2⟩
    case' inl =>
      have hpb2 : 0 ≤ perL cl ∧ perL cl ≤ 32 := by omega
      go_enter Tryz.func29, Tryz.ntmps29
      go_wp2_with (first | (go_at_call 28; refine (pages_calls cl _ H2.out.1 H2.out.2).mono ?_; rintro e w' ⟨rfl, rfl⟩) | (go_at_call 65; refine (per_calls cl _ H2.out.1 H2.out.2).mono ?_; rintro e w' ⟨rfl, rfl⟩))
    case' inr =>
      have hpb2 : 0 ≤ perL cl ∧ perL cl ≤ 32 := by
        by_cases h : sizeL cl = 0
        · unfold perL; rw [if_pos h]; omega
        · have := cls_facts cl h; omega
      go_enter Tryz.func29, Tryz.ntmps29
      go_wp2_with (first | (go_at_call 28; refine (pages_calls cl _ H2.out.1 H2.out.2).mono ?_; rintro e w' ⟨rfl, rfl⟩) | (go_at_call 65; refine (per_calls cl _ H2.out.1 H2.out.2).mono ?_; rintro e w' ⟨rfl, rfl⟩))
    all_goals
      obtain ⟨w3, hw3⟩ : ∃ w3, ((w.alloc (.cells #[.int .i64 0, .int .i64 0, .int .i64 0, .slice none 0 0] 27)).alloc (.cells #[.int .u64 1] 64)).alloc (.cells #[.int .i64 pg, .int .i64 (pagesL cl), .int .i64 cl, .slice (some ⟨w.heap.size + 1, 0, none⟩) 1 1] 27) = w3 := ⟨_, rfl⟩
      have hR : Blk w3 w.heap.size [.int .i64 0, .int .i64 0, .int .i64 0, .slice none 0 0] 27 := by
        rw [← hw3]; exact ((Blk.new w #[.int .i64 0, .int .i64 0, .int .i64 0, .slice none 0 0] 27).alloc _).alloc _
      have hS : Blk w3 (w.heap.size + 1 + 1) [.int .i64 pg, .int .i64 (pagesL cl), .int .i64 cl, .slice (some ⟨w.heap.size + 1, 0, none⟩) 1 1] 27 := by
        rw [← hw3]
        have := Blk.new ((w.alloc (.cells #[.int .i64 0, .int .i64 0, .int .i64 0, .slice none 0 0] 27)).alloc (.cells #[.int .u64 1] 64)) #[.int .i64 pg, .int .i64 (pagesL cl), .int .i64 cl, .slice (some ⟨w.heap.size + 1, 0, none⟩) 1 1] 27
        simpa using this
      have hWd : WordsAt w3 (some ⟨w.heap.size + 1, 0, none⟩) 1 bit0 := by
        rw [← hw3]
        have := (words_one (w.alloc (.cells #[.int .i64 0, .int .i64 0, .int .i64 0, .slice none 0 0] 27))).alloc (.cells #[.int .i64 pg, .int .i64 (pagesL cl), .int .i64 cl, .slice (some ⟨w.heap.size + 1, 0, none⟩) 1 1] 27)
        simpa using this
      have hB3 : Below w.heap.size w w3 := by
        rw [← hw3]; exact (((Below.refl _ _).alloc (Nat.le_refl _) _).alloc (by simp) _).alloc (by simp; omega) _
      rw [hw3]
      have HWd := Lib.hid hWd
      have HB3 := Lib.hid hB3
      have HR := Lib.hid hR
      have HS := Lib.hid hS
      have hz := hR.lt
      have hz2 := hS.lt
      clear hw3 hR hS hWd hB3
      refine (right_calls pg (pagesL cl) cl (some ⟨w.heap.size + 1, 0, none⟩) 1 1 bit0 w3 H1.out (by unfold I64; omega) H2.out HWd.out).mono ?_
      rintro e w4 ⟨b, rfl, hb, hb4⟩
      have hR4 := HR.out.below hb4
      have hS4 := HS.out.below hb4
      have r0 := hR4.cell 0
      have r1 := hR4.cell 1
      have r2 := hR4.cell 2
      have r3 := hR4.cell 3
      have q0 := hR4.free 0
      have q1 := hR4.free 1
      have q2 := hR4.free 2
      have q3 := hR4.free 3
      have s0 := hS4.cell 0
      have s1 := hS4.cell 1
      have s2 := hS4.cell 2
      have s3 := hS4.cell 3
      simp at r0 r1 r2 r3 s0 s1 s2 s3
      have HW4 := Lib.hid (HWd.out.below hb4)
      have HB4 := Lib.hid (bel_next HB3.out hb4 (by omega))
      have hz4 := hb4.size
      rw [new_iff] at hb
      have HBb := Lib.hid hb
      clear hb hb4 hR4 hS4
      cases b
      · have hno : newB pg cl = false := by
          cases h : newB pg cl
          · rfl
          · exact (HBb.out.2 (.inl ⟨HC.out, h⟩)).symm ▸ rfl
        have HNo := Lib.hid hno
        clear hno
        go_wp2
        refine bodyPost_ret (v := .tuple #[spV 0 0 0 none 0 0, .int .i64 2]) (by simp [spV, results, Tryz.results29, go_sem, r0, r1, r2, r3]) rfl ?_
        refine ⟨?_, .inl ⟨HNo.out, rfl⟩⟩
        exact (((HB4.out.setCell (p := ⟨w.heap.size, 0, none⟩) (Nat.le_refl _) _).setCell (p := ⟨w.heap.size, 1, none⟩) (Nat.le_refl _) _).setCell (p := ⟨w.heap.size, 2, none⟩) (Nat.le_refl _) _).setCell (p := ⟨w.heap.size, 3, none⟩) (Nat.le_refl _) _
      · have hyes : newB pg cl = true := by
          rcases HBb.out.1 rfl with h | h
          · exact h.2
          · exact h.2.elim
        have HY := Lib.hid hyes
        clear hyes
        go_wp2
        refine bodyPost_ret (v := .tuple #[spV pg (pagesL cl) cl (some ⟨w.heap.size + 1, 0, none⟩) 1 1, .int .i64 0]) (by simp [spV, results, Tryz.results29, go_sem, r0, r1, r2, r3]) rfl ?_
        have hbl := (((HB4.out.setCell (p := ⟨w.heap.size, 0, none⟩) (Nat.le_refl _) (.int .i64 pg)).setCell (p := ⟨w.heap.size, 1, none⟩) (Nat.le_refl _) (.int .i64 (pagesL cl))).setCell (p := ⟨w.heap.size, 2, none⟩) (Nat.le_refl _) (.int .i64 cl)).setCell (p := ⟨w.heap.size, 3, none⟩) (Nat.le_refl _) (.slice (some ⟨w.heap.size + 1, 0, none⟩) 1 1)
        refine ⟨hbl, .inr ⟨_, _, HY.out, rfl, ?_, fun x o he => by cases he; omega, rfl⟩⟩
        refine ⟨?_, HW4.out.2⟩
        obtain ⟨b', o', he, hlt, hc⟩ := HW4.out.1.resolve_left (by omega)
        cases he
        refine .inr ⟨_, _, rfl, by simpa [World.setCell] using hlt, fun i u hu => ?_⟩
        have := hc i u hu
        simpa [go_sem] using this
end Go.Proofs.YtadbbknllakpcaaGreat
