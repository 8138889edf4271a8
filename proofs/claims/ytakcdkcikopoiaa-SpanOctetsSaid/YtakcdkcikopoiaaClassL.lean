/- The walks of the statements of layer 14 (class), over the contracts. -/
import Derived.Test.YtakcdkcikopoiaaClassR
namespace Go.Proofs.Ytakcdkcikopoiaa
open Go.RowKit
set_option linter.unusedVariables false

set_option maxHeartbeats 1000000 in
theorem rpages_calls (n : Int) (w : World) (h0 : -9223372036854775808 ≤ n) (h1 : n ≤ 9223372036854775807) :
    Calls Try.prog 30 #[.int .i64 n] w fun e w' => e = .returned (.int .i64 (pagesL n)) ∧ Below w.heap.size w w' := by
  by_cases hs : sizeL n = 0
  · have E := Lib.hid (pagesL_zero n hs)
    have hb : (sizeL n == 0) = true := by simpa using hs
    clear hs
    go_enter Try.func30, Try.ntmps30
    go_wp2_with (go_at_call 53; refine (rsize_calls _ _ (by omega) (by omega)).mono ?_; rintro e w1 ⟨rfl, hB⟩)
    go_ret
    exact ⟨ret_eq E.out.symm, hB⟩
  · have hb : (sizeL n == 0) = false := by simpa using hs
    obtain ⟨f1, f2, f3, f4, f5, f6, _⟩ := cls_facts n hs
    have HL := Lib.hid (pages_lo n hs)
    have HH := Lib.hid (pages_hi n hs)
    obtain ⟨p, hp⟩ : ∃ p : Nat, pagesL n = p := ⟨(pagesL n).toNat, by omega⟩
    have hp1 : 1 ≤ p ∧ p ≤ 4 := by omega
    have HP := Lib.hid hp
    clear hs hp f5 f6
    go_enter Try.func30, Try.ntmps30
    go_wp2_with (go_at_call 53; refine (rsize_calls _ _ (by omega) (by omega)).mono ?_; rintro e w1 ⟨rfl, hB⟩)
    go_loop [4] (fun i => ∃ j : Nat, 1 ≤ j ∧ j ≤ p ∧ i = .int .i64 j) (fun i => p - (intOf i).toNat)
    case atStart => exact ⟨1, Nat.le_refl _, hp1.1, rfl⟩
    case round =>
      obtain ⟨j, hj1, hj2, rfl⟩ := hrel
      have hm0 := Int.emod_nonneg (512 * (j : Int)) (show sizeL n ≠ 0 by omega)
      have hm1 := Int.emod_lt_of_pos (512 * (j : Int)) (show 0 < sizeL n by omega)
      by_cases hlt : j < p
      · have F := HL.out j hj1 (by rw [HP.out]; omega)
        rw [Int.mul_comm (j : Int) 512] at F
        go_wp2
        exact ⟨⟨j + 1, by omega, by omega, by go_num⟩, by simp [intOf]; omega⟩
      · have hjp : j = p := by omega
        subst hjp
        have F := HH.out j HP.out.symm
        rw [Int.mul_comm (j : Int) 512] at F
        go_wp2
        all_goals go_ret
        exact ⟨ret_eq HP.out.symm, hB⟩

set_option maxHeartbeats 1000000 in
theorem rper_calls (n : Int) (w : World) (h0 : -9223372036854775808 ≤ n) (h1 : n ≤ 9223372036854775807) :
    Calls Try.prog 28 #[.int .i64 n] w fun e w' => e = .returned (.int .i64 (perL n)) ∧ Below w.heap.size w w' := by
  by_cases hs : sizeL n = 0
  · have E := Lib.hid (show perL n = 0 by unfold perL; rw [if_pos hs])
    have hb : (sizeL n == 0) = true := by simpa using hs
    clear hs
    go_enter Try.func28, Try.ntmps28
    go_wp2_with (go_at_call 53; refine (rsize_calls _ _ (by omega) (by omega)).mono ?_; rintro e w1 ⟨rfl, hB⟩)
    go_ret
    exact ⟨ret_eq E.out.symm, hB⟩
  · have hb : (sizeL n == 0) = false := by simpa using hs
    obtain ⟨f1, f2, f3, f4, f5, f6, _⟩ := cls_facts n hs
    have E := Lib.hid (show perL n = 512 * pagesL n / sizeL n by unfold perL; rw [if_neg hs, Int.mul_comm])
    clear hs
    go_enter Try.func28, Try.ntmps28
    go_wp2_with (first | (go_at_call 53; refine (rsize_calls _ _ (by omega) (by omega)).mono ?_; rintro e w1 ⟨rfl, hB⟩) | (go_at_call 30; refine (rpages_calls _ _ (by omega) (by omega)).mono ?_; rintro e w2 ⟨rfl, hB2⟩))
    go_ret
    exact ⟨ret_eq E.out.symm, bel_next hB hB2 (Nat.le_refl _)⟩

theorem of_facts (s : Int) (h : ¬ ofL s < 0) : 1 ≤ s ∧ s ≤ 1024 ∧ ofL s ≤ 19 ∧ s ≤ sizeL (ofL s) ∧ sizeL (ofL s - 1) < s ∧ (64 < s → 4 * (sizeL (ofL s) - s) < s + 4 ∧ sizeL (ofL s + 1) ≠ sizeL (ofL s)) := by
  have hs : 1 ≤ s ∧ s ≤ 1024 := by
    unfold ofL at h
    split at h
    · omega
    · split at h <;> omega
  have := of_fin ⟨s.toNat, by omega⟩
  simp only [Int.toNat_of_nonneg (show 0 ≤ s by omega)] at this
  have h2 : ¬ s.toNat = 0 := by omega
  have h3 : (64 < s.toNat) ↔ 64 < s := by omega
  rw [h3] at this
  refine ⟨hs.1, hs.2, ?_⟩
  rcases this with h4 | h4
  · exact absurd h4 h2
  · exact ⟨h4.2.1, h4.2.2.1, h4.2.2.2.1, h4.2.2.2.2⟩
theorem ofL_bd (s : Int) : -1 ≤ ofL s ∧ ofL s ≤ 19 := by
  by_cases h : ofL s < 0
  · unfold ofL at h ⊢
    repeat (split at h <;> first | omega | skip)
    all_goals (repeat (split <;> first | omega | skip))
  · have := of_facts s h; omega

theorem rem20 (n : Int) : 0 ≤ (n.tmod 20 + 20).tmod 20 ∧ (n.tmod 20 + 20).tmod 20 ≤ 19 ∧ -19 ≤ n.tmod 20 ∧ n.tmod 20 ≤ 19 := by
  have h1 := Int.natAbs_tmod n 20
  have h2 : (Int.natAbs n) % (Int.natAbs 20) < 20 := Nat.mod_lt _ (by decide)
  have h3 : -19 ≤ n.tmod 20 ∧ n.tmod 20 ≤ 19 := by omega
  rw [Int.tmod_eq_emod_of_nonneg (show 0 ≤ n.tmod 20 + 20 by omega)]
  omega

end Go.Proofs.Ytakcdkcikopoiaa
