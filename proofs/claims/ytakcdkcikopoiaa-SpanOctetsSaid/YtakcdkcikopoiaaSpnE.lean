/- The document's spans (mothballref15): New. -/
import Derived.Test.YtakcdkcikopoiaaSpnD
namespace Go.Proofs.Ytakcdkcikopoiaa
open Go.RowKit
set_option linter.unusedVariables false

/-- The cells of the first bit alone. -/
theorem fn_first (n : Nat) : (fnV n fun _ => Value.bool false).set 0 (.bool true) = fnV n fun i => .bool (bit0 i) := by
  rw [fnV_set]
  exact fnV_congr fun i _ => by
    unfold bit0
    by_cases h : i = 0
    · rw [if_pos h, decide_eq_true h]
    · rw [if_neg h, decide_eq_false h]
set_option maxHeartbeats 2000000 in
theorem new15_calls (pg cl : Int) (w : World) (h1 : I64 pg) (h2 : I64 cl) :
    Calls Try.prog 9 #[.int .i64 pg, .int .i64 cl] w fun e w' => Below w.heap.size w w' ∧ ((newB pg cl = false ∧ e = .returned (.tuple #[spV 0 0 0 none 0 0, .bool false])) ∨
      ∃ A cap, newB pg cl = true ∧ e = .returned (.tuple #[spV pg (pagesL cl) cl A 1 cap, .bool true]) ∧ WordsAt w' A 1 bit0) := by
  obtain ⟨i0, hi, hz0, hz1, hz2⟩ := info_parts Try.info_bool
  obtain ⟨w1, hw1, hR, hB⟩ := one_span w 0 0 0 none 0 0
  have HB := Lib.hid hB
  have HR := Lib.hid hR
  have H1 := Lib.hid h1
  have H2 := Lib.hid h2
  have hpb := pagesL_bd cl
  unfold I64 at h1 h2
  have hmk : ∀ (w : World) (k : Nat), k ≤ 32 → (Instr.makeSlice 46 (.int .i64 k) (.int .i64 k)).run Try.prog w = .ok (.slice (some ⟨w.heap.size, 0, none⟩) k k) (w.alloc (.cells (zrow k (.bool false)) 4)) := fun w k hk =>
    run_make1 (P := Try.prog) w 46 4 i0 _ (.bool false) Try.underlying46 hi hz0 rfl hz1 k (by rw [hz2]; omega) (by omega)
  clear hR hB
  go_enter Try.func9, Try.ntmps9
  go_wp2_with fail
  refine (rper_calls cl _ h2.1 h2.2).mono ?_
  rintro e w2 ⟨rfl, hb⟩
  have HB2 := Lib.hid (bel_next HB.out hb (Nat.le_refl _))
  have HR2 := Lib.hid (HR.out.below hb)
  have hw2 := (HR.out.below hb).lt
  by_cases hs : sizeL cl = 0
  · have hz : perL cl = 0 := by unfold perL; rw [if_pos hs]
    have hn : newB pg cl = false := by
      cases h : newB pg cl
      · rfl
      · exact absurd hs (newB_pos h)
    have hm := hmk w2 0 (by omega)
    have HN := Lib.hid hn
    simp only [Int.natCast_zero] at hm
    obtain ⟨w3, hw3⟩ : ∃ w3, w2.alloc (.cells (zrow 0 (.bool false)) 4) = w3 := ⟨_, rfl⟩
    have hB3 : Below w2.heap.size w2 w3 := by rw [← hw3]; exact (Below.refl _ _).alloc (Nat.le_refl _) _
    rw [hw3] at hm
    obtain ⟨e0, e1, e2, e3⟩ := (HR2.out.below hB3).free
    obtain ⟨q0, q1, q2, q3⟩ := (HR2.out.below hB3).cells
    have HB3 := Lib.hid (bel_next HB2.out hB3 (Nat.le_refl _))
    rw [hz]
    clear hB3 hw3
    clear hs hz hn hmk hb hw1
    go_wp2
    refine bodyPost_ret (v := .tuple #[spV 0 0 0 none 0 0, .bool false]) (by simp [spV, results, Try.results9, go_sem, q0, q1, q2, q3]) rfl ?_
    exact ⟨below4 HB3.out (Nat.le_refl _) _ _ _ _, .inl ⟨HN.out, rfl⟩⟩
  · obtain ⟨hc, hpc, hp1⟩ := perN_pos cl hs
    have hple := perN_le cl
    have hcast := perN_cast cl
    rw [hpc] at hcast
    obtain ⟨P, hP⟩ : ∃ P, perN cl = P := ⟨_, rfl⟩
    rw [hP] at hcast hple hp1
    have hm := hmk w2 P hple
    have HP := Lib.hid hP
    have hsz : (w2.alloc (.cells (zrow P (.bool false)) 4)).heap.size = w2.heap.size + 1 := by simp
    have hblk0 : Blk (w2.alloc (.cells (zrow P (.bool false)) 4)) w2.heap.size (fnV P fun _ => .bool false) 4 := by
      rw [← fnV_rep]; exact Blk.new w2 (zrow P (.bool false)) 4
    have hblk := Blk.set hblk0 0 (.bool true)
    rw [fn_first] at hblk
    have hc0 := hblk0.cell 0
    rw [fnV_at P _ 0 (by omega)] at hc0
    have hf0 := hblk0.free 0
    obtain ⟨w4, hw4⟩ : ∃ w4, (w2.alloc (.cells (zrow P (.bool false)) 4)).setCell ⟨w2.heap.size, 0, none⟩ (.bool true) = w4 := ⟨_, rfl⟩
    rw [hw4] at hblk
    have hB4 : Below w2.heap.size w2 w4 := by rw [← hw4]; exact ((Below.refl _ _).alloc (Nat.le_refl _) _).setCell (p := ⟨w2.heap.size, 0, none⟩) (Nat.le_refl _) _
    have HB4 := Lib.hid (bel_next HB2.out hB4 (Nat.le_refl _))
    have HR4 := Lib.hid (HR2.out.below hB4)
    have HRd := Lib.hid (RdAt.of_blk (n := P) hblk)
    have HNz := Lib.hid (show ∀ b : Bool, (b = true ↔ Good pg (pagesL cl) cl 1 bit0 ∧ 0 < cntF bit0 (perN cl)) → b = newB pg cl from fun b hb => by
      cases b
      · cases hn : newB pg cl
        · rfl
        · have h1 := (new_iff pg cl).2 (.inl ⟨hc, hn⟩)
          exact absurd (hb.2 (Good.of_right h1 (fun i hi => bit0_out i (by omega)))) (by simp)
      · have h1 := hb.1 rfl
        have h2 := (new_iff pg cl).1 (h1.1.right h1.2)
        rcases h2 with ⟨_, h2⟩ | ⟨_, h2⟩
        · exact h2.symm
        · exact h2.elim)
    rw [hcast]
    clear hs hpc hcast hblk0 hblk hB4 hmk hb hw1 hP
    have hPe : ((P : Int) == 0) = false := by rw [beq_eq_false_iff_ne]; omega
    go_wp2_with fail
    refine (rpages_calls cl _ h2.1 h2.2).mono ?_
    rintro e w5 ⟨rfl, hb⟩
    have HB5 := Lib.hid (bel_next HB4.out hb (Nat.le_refl _))
    have HR5 := Lib.hid (HR4.out.below hb)
    have HRd5 := Lib.hid (HRd.out.below hb)
    clear hb hw4
    go_wp2_with fail
    refine (with15_calls pg (pagesL cl) cl none 0 0 _ _ P P bit0 HRd5.out (by omega) (fun i hi => bit0_out i (by omega))).mono ?_
    rintro e w6 ⟨A', cap', rfl, hW, hb, _⟩
    rw [show wn P = 1 by unfold wn; omega] at hW ⊢
    obtain ⟨w7, hw7, hS7, hB7⟩ := one_span w6 pg (pagesL cl) cl A' 1 cap'
    have HB7 := Lib.hid (bel_next (bel_next HB5.out hb (Nat.le_refl _)) hB7 (Nat.le_refl _))
    have HR7 := Lib.hid ((HR5.out.below hb).below hB7)
    have HW7 := Lib.hid (hW.below hB7)
    have HS7 := Lib.hid hS7
    obtain ⟨s0, s1, s2, s3⟩ := hS7.cells
    clear hb hW hS7 hB7 hm
    go_wp2_with fail
    clear hw7
    generalize w6.heap.size = sb at *
    refine (right15_calls pg (pagesL cl) cl A' 1 cap' bit0 _ H1.out (by unfold I64; omega) H2.out HW7.out).mono ?_
    rintro e w8 ⟨b, rfl, hb2, hb⟩
    have hbn := HNz.out b hb2
    have HB8 := Lib.hid (bel_next HB7.out hb (Nat.le_refl _))
    obtain ⟨s0, s1, s2, s3⟩ := (HS7.out.below hb).cells
    obtain ⟨e0, e1, e2, e3⟩ := (HR7.out.below hb).free
    obtain ⟨q0, q1, q2, q3⟩ := (HR7.out.below hb).cells
    have HW8 := Lib.hid (HW7.out.below hb)
    have HR8 := Lib.hid (HR7.out.below hb)
    have HBn := Lib.hid hbn
    clear hb hb2 hbn
    cases b
    · go_wp2
      refine bodyPost_ret (v := .tuple #[spV 0 0 0 none 0 0, .bool false]) (by simp [spV, results, Try.results9, go_sem, q0, q1, q2, q3]) rfl ?_
      exact ⟨below4 HB8.out (Nat.le_refl _) _ _ _ _, .inl ⟨HBn.out.symm, rfl⟩⟩
    · go_wp2
      refine bodyPost_ret (v := .tuple #[spV pg (pagesL cl) cl A' 1 cap', .bool true]) (by simp [spV, results, Try.results9, go_sem, q0, q1, q2, q3]) rfl ?_
      exact ⟨below4 HB8.out (Nat.le_refl _) _ _ _ _, .inr ⟨_, _, HBn.out.symm, rfl, WordsAt.store HW8.out HR8.out _ _ _ _⟩⟩
end Go.Proofs.Ytakcdkcikopoiaa
