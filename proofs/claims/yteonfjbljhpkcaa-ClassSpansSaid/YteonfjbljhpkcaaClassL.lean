/- The walks of the statements of layer 14 (class), over the contracts. -/
import Derived.Test.YteonfjbljhpkcaaClassR
namespace Go.Proofs.Yteonfjbljhpkcaa
open Go.RowKit
set_option linter.unusedVariables false

set_option maxHeartbeats 1000000 in
theorem rpages_calls (n : Int) (w : World) (h0 : -9223372036854775808 ≤ n) (h1 : n ≤ 9223372036854775807) :
    Calls Try.prog 16 #[.int .i64 n] w fun e w' => e = .returned (.int .i64 (pagesL n)) ∧ Below w.heap.size w w' := by
  by_cases hs : sizeL n = 0
  · have E := Lib.hid (pagesL_zero n hs)
    have hb : (sizeL n == 0) = true := by simpa using hs
    clear hs
    go_enter Try.func16, Try.ntmps16
    go_wp2_with (go_at_call 12; refine (rsize_calls _ _ (by omega) (by omega)).mono ?_; rintro e w1 ⟨rfl, hB⟩)
    go_ret
    exact ⟨ret_eq E.out.symm, hB⟩
  · have hb : (sizeL n == 0) = false := by simpa using hs
    obtain ⟨f1, f2, f3, f4, f5, f6, _⟩ := cls_facts n hs
    have HL := Lib.hid (pages_lo n hs)
    have HH := Lib.hid (pages_hi n hs)
    obtain ⟨p, hp⟩ : ∃ p : Nat, pagesL n = p := ⟨(pagesL n).toNat, by omega⟩
    have hp1 : 1 ≤ p ∧ p ≤ 4 := by omega
    have HP := Lib.hid hp
    clear hs hp f5 f6
    go_enter Try.func16, Try.ntmps16
    go_wp2_with (go_at_call 12; refine (rsize_calls _ _ (by omega) (by omega)).mono ?_; rintro e w1 ⟨rfl, hB⟩)
    go_loop [4] (fun i => ∃ j : Nat, 1 ≤ j ∧ j ≤ p ∧ i = .int .i64 j) (fun i => p - (intOf i).toNat)
    case atStart => exact ⟨1, Nat.le_refl _, hp1.1, rfl⟩
    case round =>
      obtain ⟨j, hj1, hj2, rfl⟩ := hrel
      have hm0 := Int.emod_nonneg (512 * (j : Int)) (show sizeL n ≠ 0 by omega)
      have hm1 := Int.emod_lt_of_pos (512 * (j : Int)) (show 0 < sizeL n by omega)
      by_cases hlt : j < p
      · have F := HL.out j hj1 (by rw [HP.out]; omega)
        rw [Int.mul_comm (j : Int) 512] at F
        go_wp2
        exact ⟨⟨j + 1, by omega, by omega, by go_num⟩, by simp [intOf]; omega⟩
      · have hjp : j = p := by omega
        subst hjp
        have F := HH.out j HP.out.symm
        rw [Int.mul_comm (j : Int) 512] at F
        go_wp2
        all_goals go_ret
        exact ⟨ret_eq HP.out.symm, hB⟩

set_option maxHeartbeats 1000000 in
theorem rper_calls (n : Int) (w : World) (h0 : -9223372036854775808 ≤ n) (h1 : n ≤ 9223372036854775807) :
    Calls Try.prog 17 #[.int .i64 n] w fun e w' => e = .returned (.int .i64 (perL n)) ∧ Below w.heap.size w w' := by
  by_cases hs : sizeL n = 0
  · have E := Lib.hid (show perL n = 0 by unfold perL; rw [if_pos hs])
    have hb : (sizeL n == 0) = true := by simpa using hs
    clear hs
    go_enter Try.func17, Try.ntmps17
    go_wp2_with (go_at_call 12; refine (rsize_calls _ _ (by omega) (by omega)).mono ?_; rintro e w1 ⟨rfl, hB⟩)
    go_ret
    exact ⟨ret_eq E.out.symm, hB⟩
  · have hb : (sizeL n == 0) = false := by simpa using hs
    obtain ⟨f1, f2, f3, f4, f5, f6, _⟩ := cls_facts n hs
    have E := Lib.hid (show perL n = 512 * pagesL n / sizeL n by unfold perL; rw [if_neg hs, Int.mul_comm])
    clear hs
    go_enter Try.func17, Try.ntmps17
    go_wp2_with (first | (go_at_call 12; refine (rsize_calls _ _ (by omega) (by omega)).mono ?_; rintro e w1 ⟨rfl, hB⟩) | (go_at_call 16; refine (rpages_calls _ _ (by omega) (by omega)).mono ?_; rintro e w2 ⟨rfl, hB2⟩))
    go_ret
    exact ⟨ret_eq E.out.symm, bel_next hB hB2 (Nat.le_refl _)⟩

theorem rlarge_calls (s : Int) (w : World) (h0 : -9223372036854775808 ≤ s) (h1 : s ≤ 9223372036854775807) :
    Calls Try.prog 19 #[.int .i64 s] w fun e w' => e = .returned (.int .i64 (largeL s)) ∧ w = w' := by
  go_enter Try.func19, Try.ntmps19
  go_wp2
  all_goals go_ret
  all_goals refine ⟨ret_eq ?_, rfl⟩
  all_goals unfold largeL
  all_goals split <;> omega

set_option maxHeartbeats 1000000 in
theorem awake_calls14 (w : World) : Calls Try.prog 7 #[] w fun e w' => e = .returned (.bool true) ∧ w = w' := by
  have e1 : ofL 65 = 4 := by decide
  have e2 : sizeL 4 = 80 := by decide
  have e3 : ofL 1024 = 19 := by decide
  have e4 : largeL 1025 = 3 := by decide
  go_enter Try.func7, Try.ntmps7
  go_wp2_with (first | (go_at_call 8; refine (of_calls14 _ _ (by omega) (by omega)).mono ?_; rintro e w' ⟨rfl, rfl⟩) | (go_at_call 11; refine (size_calls _ _ (by omega) (by omega)).mono ?_; rintro e w' ⟨rfl, rfl⟩) | (go_at_call 9; refine (count_calls14 _).mono ?_; rintro e w' ⟨rfl, rfl⟩) | (go_at_call 18; refine (large_calls _ _ (by omega) (by omega)).mono ?_; rintro e w' ⟨rfl, rfl⟩))
  go_ret
  exact ⟨rfl, rfl⟩

theorem of_facts (s : Int) (h : ¬ ofL s < 0) : 1 ≤ s ∧ s ≤ 1024 ∧ ofL s ≤ 19 ∧ s ≤ sizeL (ofL s) ∧ sizeL (ofL s - 1) < s ∧ (64 < s → 4 * (sizeL (ofL s) - s) < s + 4 ∧ sizeL (ofL s + 1) ≠ sizeL (ofL s)) := by
  have hs : 1 ≤ s ∧ s ≤ 1024 := by
    unfold ofL at h
    split at h
    · omega
    · split at h <;> omega
  have := of_fin ⟨s.toNat, by omega⟩
  simp only [Int.toNat_of_nonneg (show 0 ≤ s by omega)] at this
  have h2 : ¬ s.toNat = 0 := by omega
  have h3 : (64 < s.toNat) ↔ 64 < s := by omega
  rw [h3] at this
  refine ⟨hs.1, hs.2, ?_⟩
  rcases this with h4 | h4
  · exact absurd h4 h2
  · exact ⟨h4.2.1, h4.2.2.1, h4.2.2.2.1, h4.2.2.2.2⟩
theorem ofL_bd (s : Int) : -1 ≤ ofL s ∧ ofL s ≤ 19 := by
  by_cases h : ofL s < 0
  · unfold ofL at h ⊢
    repeat (split at h <;> first | omega | skip)
    all_goals (repeat (split <;> first | omega | skip))
  · have := of_facts s h; omega

set_option maxHeartbeats 2000000 in
theorem sizes_walk (n s : Int) (w : World) (wn : (Lit.int .i64 n).wf = true) (ws : (Lit.int .i64 s).wf = true) :
    Calls Try.prog 3 #[.int .i64 n, .int .i64 s] w fun e w' => e = .returned (.bool true) ∧ Below w.heap.size w w' := by
  obtain ⟨hn', hn⟩ := wf_i64 wn
  obtain ⟨hs', hs⟩ := wf_i64 ws
  clear wn ws
  obtain ⟨k0, k1⟩ := ofL_bd s
  have t1 : (sizeL n == sizeL n) = true := by simp
  have t2 : (ofL s == ofL s) = true := by simp
  by_cases hk : ofL s < 0
  · go_enter Try.func3, Try.ntmps3
    go_wp2_with (first | (go_at_call 7; refine (awake_calls14 _).mono ?_; rintro e w' ⟨rfl, rfl⟩) | (go_at_call 8; refine (of_calls14 _ _ (by omega) (by omega)).mono ?_; rintro e w' ⟨rfl, rfl⟩) | (go_at_call 11; refine (size_calls _ _ (by omega) (by omega)).mono ?_; rintro e w' ⟨rfl, rfl⟩) | (go_at_call 9; refine (count_calls14 _).mono ?_; rintro e w' ⟨rfl, rfl⟩) | (go_at_call 10; refine (rsizes_calls _).mono ?_; rintro e w1 ⟨g, cap, rfl, hown, hB1⟩) | (go_at_call 12; refine (rsize_calls _ _ (by omega) (by omega)).mono ?_; rintro e w2 ⟨rfl, hB2⟩) | (go_at_call 13; refine (rof_calls _ _ (by omega) (by omega)).mono ?_; rintro e w3 ⟨rfl, hB3⟩))
    go_ret
    exact ⟨rfl, bel_next (bel_next hB1 hB2 (Nat.le_refl _)) hB3 (Nat.le_refl _)⟩
  · obtain ⟨f1, f2, f3, f4, f5, f6⟩ := of_facts s hk
    clear f6
    go_enter Try.func3, Try.ntmps3
    go_wp2_with (first | (go_at_call 7; refine (awake_calls14 _).mono ?_; rintro e w' ⟨rfl, rfl⟩) | (go_at_call 8; refine (of_calls14 _ _ (by omega) (by omega)).mono ?_; rintro e w' ⟨rfl, rfl⟩) | (go_at_call 11; refine (size_calls _ _ (by omega) (by omega)).mono ?_; rintro e w' ⟨rfl, rfl⟩) | (go_at_call 9; refine (count_calls14 _).mono ?_; rintro e w' ⟨rfl, rfl⟩) | (go_at_call 10; refine (rsizes_calls _).mono ?_; rintro e w1 ⟨g, cap, rfl, hown, hB1⟩) | (go_at_call 12; refine (rsize_calls _ _ (by omega) (by omega)).mono ?_; rintro e w2 ⟨rfl, hB2⟩) | (go_at_call 13; refine (rof_calls _ _ (by omega) (by omega)).mono ?_; rintro e w3 ⟨rfl, hB3⟩))
    go_ret
    exact ⟨rfl, bel_next (bel_next hB1 hB2 (Nat.le_refl _)) hB3 (Nat.le_refl _)⟩

set_option maxHeartbeats 1000000 in
theorem waste_walk (s : Int) (w : World) (ws : (Lit.int .i64 s).wf = true) :
    Calls Try.prog 4 #[.int .i64 s] w fun e w' => e = .returned (.bool true) ∧ Below w.heap.size w w' := by
  obtain ⟨hs', hs⟩ := wf_i64 ws
  clear ws
  by_cases c : s ≤ 64 ∨ 1024 < s
  · go_enter Try.func4, Try.ntmps4
    go_wp2_with (first | (go_at_call 7; refine (awake_calls14 _).mono ?_; rintro e w' ⟨rfl, rfl⟩))
    all_goals go_ret
    all_goals exact ⟨rfl, Below.refl _ _⟩
  · have hk : ¬ ofL s < 0 := by
      have := of_fin ⟨s.toNat, by omega⟩
      simp only [Int.toNat_of_nonneg (show 0 ≤ s by omega)] at this
      omega
    obtain ⟨f1, f2, f3, f4, f5, f6⟩ := of_facts s hk
    obtain ⟨f6, f7⟩ := f6 (by omega)
    have t1 : (sizeL (ofL s + 1) != sizeL (ofL s)) = true := by simpa using f7
    clear f7
    have hub : sizeL (ofL s) ≤ 100000 := by omega
    go_enter Try.func4, Try.ntmps4
    go_wp2_with (first | (go_at_call 7; refine (awake_calls14 _).mono ?_; rintro e w' ⟨rfl, rfl⟩) | (go_at_call 8; refine (of_calls14 _ _ (by omega) (by omega)).mono ?_; rintro e w' ⟨rfl, rfl⟩) | (go_at_call 11; refine (size_calls _ _ (by omega) (by omega)).mono ?_; rintro e w' ⟨rfl, rfl⟩))
    all_goals go_ret
    all_goals exact ⟨rfl, Below.refl _ _⟩

theorem rem20 (n : Int) : 0 ≤ (n.tmod 20 + 20).tmod 20 ∧ (n.tmod 20 + 20).tmod 20 ≤ 19 ∧ -19 ≤ n.tmod 20 ∧ n.tmod 20 ≤ 19 := by
  have h1 := Int.natAbs_tmod n 20
  have h2 : (Int.natAbs n) % (Int.natAbs 20) < 20 := Nat.mod_lt _ (by decide)
  have h3 : -19 ≤ n.tmod 20 ∧ n.tmod 20 ≤ 19 := by omega
  rw [Int.tmod_eq_emod_of_nonneg (show 0 ≤ n.tmod 20 + 20 by omega)]
  omega

set_option maxHeartbeats 2000000 in
theorem rises_walk (n : Int) (w : World) (wn : (Lit.int .i64 n).wf = true) :
    Calls Try.prog 5 #[.int .i64 n] w fun e w' => e = .returned (.bool true) ∧ Below w.heap.size w w' := by
  obtain ⟨hn', hn⟩ := wf_i64 wn
  clear wn
  obtain ⟨b0, b1, b2, b3⟩ := rem20 n
  have hrem : (n.tmod 20 + 20) % 20 = (n.tmod 20 + 20).tmod 20 := (Int.tmod_eq_emod_of_nonneg (by omega)).symm
  rw [← hrem] at b0 b1
  clear hrem
  obtain ⟨k, hk⟩ : ∃ k : Nat, (n.tmod 20 + 20) % 20 = k := ⟨((n.tmod 20 + 20) % 20).toNat, by omega⟩
  have hk19 : k < 20 := by omega
  have f := size_fin ⟨k, hk19⟩
  have r := size_rises ⟨k, hk19⟩
  obtain ⟨f1, f2, f3, _⟩ := f
  obtain ⟨r1, r2⟩ := r
  have t1 : (sizeL k % 16 == 0) = true := by simpa using f3
  have t2 : (ofL (sizeL k) == (k : Int)) = true := by simpa using r2
  have e1 : sizeL 19 = 1024 := by decide
  have e2 : sizeL 20 = 0 := by decide
  have E2 := Lib.hid r2
  simp only at f1 f2
  clear r2 f3 b0 b1
  by_cases c : k = 0
  · have t3 : ((k : Int) == 0) = true := by simpa using c
    clear r1 c
    go_enter Try.func5, Try.ntmps5
    go_wp2_with (first | (go_at_call 7; refine (awake_calls14 _).mono ?_; rintro e w' ⟨rfl, rfl⟩) | (go_at_call 8; refine (of_calls14 _ _ (by omega) (by omega)).mono ?_; rintro e w' ⟨rfl, rfl⟩) | (go_at_call 11; refine (size_calls _ _ (by omega) (by omega)).mono ?_; rintro e w' ⟨rfl, rfl⟩) | (go_at_call 9; refine (count_calls14 _).mono ?_; rintro e w' ⟨rfl, rfl⟩))
    all_goals go_ret
    all_goals exact ⟨rfl, Below.refl _ _⟩
  · have t3 : ((k : Int) == 0) = false := by simpa using c
    have r1' : sizeL ((k : Int) - 1) < sizeL k := by rcases r1 with h | h; exact absurd h c; exact h
    clear r1 c
    go_enter Try.func5, Try.ntmps5
    go_wp2_with (first | (go_at_call 7; refine (awake_calls14 _).mono ?_; rintro e w' ⟨rfl, rfl⟩) | (go_at_call 8; refine (of_calls14 _ _ (by omega) (by omega)).mono ?_; rintro e w' ⟨rfl, rfl⟩) | (go_at_call 11; refine (size_calls _ _ (by omega) (by omega)).mono ?_; rintro e w' ⟨rfl, rfl⟩) | (go_at_call 9; refine (count_calls14 _).mono ?_; rintro e w' ⟨rfl, rfl⟩))
    all_goals go_ret
    all_goals exact ⟨rfl, Below.refl _ _⟩

set_option maxHeartbeats 2000000 in
theorem spans_walk (n s : Int) (w : World) (wn : (Lit.int .i64 n).wf = true) (ws : (Lit.int .i64 s).wf = true) :
    Calls Try.prog 6 #[.int .i64 n, .int .i64 s] w fun e w' => e = .returned (.bool true) ∧ Below w.heap.size w w' := by
  obtain ⟨hn', hn⟩ := wf_i64 wn
  obtain ⟨hs', hs⟩ := wf_i64 ws
  clear wn ws
  have t1 : (pagesL n != pagesL n) = false := by simp
  have t2 : (perL n != perL n) = false := by simp
  have t3 : (largeL s != largeL s) = false := by simp
  by_cases hz : sizeL n = 0
  · have t4 : (sizeL n == 0) = true := by simpa using hz
    clear hz
    go_enter Try.func6, Try.ntmps6
    go_wp2_with (first | (go_at_call 7; refine (awake_calls14 _).mono ?_; rintro e w' ⟨rfl, rfl⟩) | (go_at_call 14; refine (pages_calls _ _ (by omega) (by omega)).mono ?_; rintro e w' ⟨rfl, rfl⟩) | (go_at_call 15; refine (per_calls _ _ (by omega) (by omega)).mono ?_; rintro e w' ⟨rfl, rfl⟩) | (go_at_call 18; refine (large_calls _ _ (by omega) (by omega)).mono ?_; rintro e w' ⟨rfl, rfl⟩) | (go_at_call 11; refine (size_calls _ _ (by omega) (by omega)).mono ?_; rintro e w' ⟨rfl, rfl⟩) | (go_at_call 16; refine (rpages_calls _ _ (by omega) (by omega)).mono ?_; rintro e w1 ⟨rfl, hB1⟩) | (go_at_call 17; refine (rper_calls _ _ (by omega) (by omega)).mono ?_; rintro e w2 ⟨rfl, hB2⟩) | (go_at_call 19; refine (rlarge_calls _ _ (by omega) (by omega)).mono ?_; rintro e w' ⟨rfl, rfl⟩))
    all_goals go_ret
    all_goals exact ⟨rfl, bel_next hB1 hB2 (Nat.le_refl _)⟩
  · have t4 : (sizeL n == 0) = false := by simpa using hz
    obtain ⟨f1, f2, f3, f4, f5, f6, f7, f8, f9, f10⟩ := cls_facts n hz
    have hp : 0 ≤ perL n * sizeL n := Int.mul_nonneg (by omega) (by omega)
    clear hz
    go_enter Try.func6, Try.ntmps6
    go_wp2_with (first | (go_at_call 7; refine (awake_calls14 _).mono ?_; rintro e w' ⟨rfl, rfl⟩) | (go_at_call 14; refine (pages_calls _ _ (by omega) (by omega)).mono ?_; rintro e w' ⟨rfl, rfl⟩) | (go_at_call 15; refine (per_calls _ _ (by omega) (by omega)).mono ?_; rintro e w' ⟨rfl, rfl⟩) | (go_at_call 18; refine (large_calls _ _ (by omega) (by omega)).mono ?_; rintro e w' ⟨rfl, rfl⟩) | (go_at_call 11; refine (size_calls _ _ (by omega) (by omega)).mono ?_; rintro e w' ⟨rfl, rfl⟩) | (go_at_call 16; refine (rpages_calls _ _ (by omega) (by omega)).mono ?_; rintro e w1 ⟨rfl, hB1⟩) | (go_at_call 17; refine (rper_calls _ _ (by omega) (by omega)).mono ?_; rintro e w2 ⟨rfl, hB2⟩) | (go_at_call 19; refine (rlarge_calls _ _ (by omega) (by omega)).mono ?_; rintro e w' ⟨rfl, rfl⟩))
    all_goals go_ret
    all_goals exact ⟨rfl, bel_next hB1 hB2 (Nat.le_refl _)⟩
end Go.Proofs.Yteonfjbljhpkcaa
