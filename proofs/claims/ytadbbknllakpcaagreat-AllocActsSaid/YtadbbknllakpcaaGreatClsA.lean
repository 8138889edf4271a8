/- The walks through the document's answer for layer 14. -/
import Derived.Test.YtadbbknllakpcaaGreatClassW
namespace Go.Proofs.YtadbbknllakpcaaGreat
open Go.RowKit
set_option linter.unusedVariables false

set_option maxHeartbeats 1000000 in
theorem rsizes_calls (w : World) : Calls Tryz.prog 66 #[] w fun e w' =>
    ∃ g cap, e = .returned (.slice (some ⟨g, 0, none⟩) 20 cap) ∧ w'.ownsRow w.heap.size 3 1 (.slice (some ⟨g, 0, none⟩) 20 cap) 20 (sizesT.map (.int .i64)) ∧ Below w.heap.size w w' := by
  obtain ⟨i0, hi, hz0, hz1, hz2⟩ := info_parts Tryz.info_int
  go_enter Tryz.func66, Tryz.ntmps66
  go_wp2_with fail
  go_loopw [1, 2] (fun v s wr => ∃ j : Nat, j ≤ 4 ∧ s = .int .i64 ((64 * 2 ^ j : Nat) : Int) ∧ wr.ownsRow w.heap.size 3 1 v (4 + 4 * j) ((sizesT.take (4 + 4 * j)).map (.int .i64)) ∧ Below w.heap.size w wr) (fun _ s _ => 1024 - (intOf s).toNat)
  case atStart =>
    exact ⟨0, by omega, rfl, World.ownsRow_lit _ _ _ (Nat.le_refl _) (by decide) rfl, (Below.refl _ _).alloc (Nat.le_refl _) _⟩
  case round =>
    obtain ⟨j, hj, rfl, hown, hbel⟩ := hrel
    have hbw := hbel.size
    rcases (show j = 0 ∨ j = 1 ∨ j = 2 ∨ j = 3 ∨ j = 4 by omega) with rfl | rfl | rfl | rfl | rfl
    · go_wp2_with (at_builtin; refine wpList_appendk rfl (.tmp 8) (.tmp 24) 37 rfl w.heap.size 3 i0 (.int .i64 0) 8 Tryz.underlying37 hi hz0 hz1 hz2 rfl u1 _ 4 _ rfl hown rfl rfl (by simp [Value.oneCell']) (by omega) (by omega) (by unfold maxLen; omega) (by omega) ?_; intro v' w1 hown1 hgr1 hne1)
      exact ⟨⟨1, by omega, by go_num, hown1, hbel.grown hgr1 hbw (fun j hj => (hown.lt j hj).1)⟩, by simp [intOf]⟩
    · go_wp2_with (at_builtin; refine wpList_appendk rfl (.tmp 8) (.tmp 24) 37 rfl w.heap.size 3 i0 (.int .i64 0) 8 Tryz.underlying37 hi hz0 hz1 hz2 rfl u1 _ 4 _ rfl hown rfl rfl (by simp [Value.oneCell']) (by omega) (by omega) (by unfold maxLen; omega) (by omega) ?_; intro v' w1 hown1 hgr1 hne1)
      exact ⟨⟨2, by omega, by go_num, hown1, hbel.grown hgr1 hbw (fun j hj => (hown.lt j hj).1)⟩, by simp [intOf]⟩
    · go_wp2_with (at_builtin; refine wpList_appendk rfl (.tmp 8) (.tmp 24) 37 rfl w.heap.size 3 i0 (.int .i64 0) 8 Tryz.underlying37 hi hz0 hz1 hz2 rfl u1 _ 4 _ rfl hown rfl rfl (by simp [Value.oneCell']) (by omega) (by omega) (by unfold maxLen; omega) (by omega) ?_; intro v' w1 hown1 hgr1 hne1)
      exact ⟨⟨3, by omega, by go_num, hown1, hbel.grown hgr1 hbw (fun j hj => (hown.lt j hj).1)⟩, by simp [intOf]⟩
    · go_wp2_with (at_builtin; refine wpList_appendk rfl (.tmp 8) (.tmp 24) 37 rfl w.heap.size 3 i0 (.int .i64 0) 8 Tryz.underlying37 hi hz0 hz1 hz2 rfl u1 _ 4 _ rfl hown rfl rfl (by simp [Value.oneCell']) (by omega) (by omega) (by unfold maxLen; omega) (by omega) ?_; intro v' w1 hown1 hgr1 hne1)
      exact ⟨⟨4, by omega, by go_num, hown1, hbel.grown hgr1 hbw (fun j hj => (hown.lt j hj).1)⟩, by simp [intOf]⟩
    · go_wp2
      go_ret
      rcases ownsRow_form hown with ⟨_, h0⟩ | ⟨g, cap, hv, _⟩
      · omega
      · subst hv
        exact ⟨g, cap, rfl, hown, hbel⟩

set_option maxHeartbeats 1000000 in
theorem rsize_calls (n : Int) (w : World) (h0 : -9223372036854775808 ≤ n) (h1 : n ≤ 9223372036854775807) :
    Calls Tryz.prog 71 #[.int .i64 n] w fun e w' => e = .returned (.int .i64 (sizeL n)) ∧ Below w.heap.size w w' := by
  by_cases c1 : n < 0
  · have E := Lib.hid (sizeL_neg n c1)
    go_enter Tryz.func71, Tryz.ntmps71
    go_wp2_with (go_at_call 66; refine (rsizes_calls _).mono ?_; rintro e w1 ⟨g, cap, rfl, hown, hb⟩)
    go_ret
    exact ⟨ret_eq E.out.symm, hb⟩
  · by_cases c2 : 20 ≤ n
    · have E := Lib.hid (sizeL_big n c2)
      go_enter Tryz.func71, Tryz.ntmps71
      go_wp2_with (go_at_call 66; refine (rsizes_calls _).mono ?_; rintro e w1 ⟨g, cap, rfl, hown, hb⟩)
      go_ret
      exact ⟨ret_eq E.out.symm, hb⟩
    · obtain ⟨m, rfl⟩ := Int.eq_ofNat_of_zero_le (show 0 ≤ n by omega)
      have hm : m < 20 := by omega
      clear c1 c2 h0 h1
      go_enter Tryz.func71, Tryz.ntmps71
      go_wp2_with fail
      refine (rsizes_calls _).mono ?_
      rintro e w1 ⟨g, cap, rfl, hown, hb⟩
      have hc := (ownsRow_cell hown m hm).trans (size_at m hm)
      clear hown
      go_wp2
      go_ret
      exact ⟨ret_eq rfl, hb⟩

theorem ofL_hit (s : Int) (h1 : 1 ≤ s) (j : Nat) (hj : j < 20) (h2 : s ≤ sizeL j) (h3 : j = 0 ∨ sizeL ((j : Int) - 1) < s) : ofL s = j := by
  have hf := size_fin ⟨j, hj⟩
  simp only at hf
  have := of_first ⟨s.toNat, by omega⟩ ⟨j, hj⟩
  simp only [Int.toNat_of_nonneg (show 0 ≤ s by omega)] at this
  omega
theorem size_19 : sizeL 19 = 1024 := by decide

set_option maxHeartbeats 1000000 in
theorem rof_calls (s : Int) (w : World) (h0 : -9223372036854775808 ≤ s) (h1 : s ≤ 9223372036854775807) :
    Calls Tryz.prog 30 #[.int .i64 s] w fun e w' => e = .returned (.int .i64 (ofL s)) ∧ Below w.heap.size w w' := by
  by_cases c1 : s < 1
  · go_enter Tryz.func30, Tryz.ntmps30
    go_wp2_with (go_at_call 66; refine (rsizes_calls _).mono ?_; rintro e w1 ⟨g, cap, rfl, hown, hb⟩)
    refine wp_loop_rounds 1 ?_
    rw [rounds_succ]
    go_wp2
    go_ret
    exact ⟨ret_eq (by rw [ofL_a s (by omega)]), hb⟩
  · go_enter Tryz.func30, Tryz.ntmps30
    go_wp2_with fail
    refine (rsizes_calls _).mono ?_
    rintro e w1 ⟨g, cap, rfl, hown, hb⟩
    have HC := Lib.hid (fun (j : Nat) (hj : j < 20) => (ownsRow_cell hown j hj).trans (size_at j hj))
    clear hown
    go_wp2_with fail
    go_loop [4] (fun i => ∃ j : Nat, j ≤ 20 ∧ i = .int .i64 j ∧ Hid (j = 0 ∨ sizeL ((j : Int) - 1) < s)) (fun i => 20 - (intOf i).toNat)
    case atStart => exact ⟨0, by omega, rfl, Lib.hid (.inl rfl)⟩
    case round =>
      obtain ⟨j, hj, rfl, hI⟩ := hrel
      by_cases hlt : j < 20
      · have hc := HC.out j hlt
        by_cases hge : s ≤ sizeL j
        · have E := Lib.hid (ofL_hit s (by omega) j hlt hge hI.out)
          go_wp2
          go_ret
          exact ⟨ret_eq E.out.symm, hb⟩
        · go_wp2
          exact ⟨⟨j + 1, by omega, by go_num, Lib.hid (.inr (by rw [show (((j + 1 : Nat) : Int) - 1) = (j : Int) by omega]; omega))⟩, by simp [intOf]; omega⟩
      · have hj20 : j = 20 := by omega
        subst hj20
        have hbig : 1024 < s := by
          have h := hI.out
          rw [show (((20 : Nat) : Int) - 1) = 19 by omega, size_19] at h
          omega
        go_wp2
        go_ret
        exact ⟨ret_eq (by rw [ofL_b s hbig]), hb⟩
end Go.Proofs.YtadbbknllakpcaaGreat

/- The walks of the statements of layer 14 (class), over the contracts. -/
--DROP
namespace Go.Proofs.YtadbbknllakpcaaGreat
open Go.RowKit
set_option linter.unusedVariables false

set_option maxHeartbeats 1000000 in
theorem rpages_calls (n : Int) (w : World) (h0 : -9223372036854775808 ≤ n) (h1 : n ≤ 9223372036854775807) :
    Calls Tryz.prog 36 #[.int .i64 n] w fun e w' => e = .returned (.int .i64 (pagesL n)) ∧ Below w.heap.size w w' := by
  by_cases hs : sizeL n = 0
  · have E := Lib.hid (pagesL_zero n hs)
    have hb : (sizeL n == 0) = true := by simpa using hs
    clear hs
    go_enter Tryz.func36, Tryz.ntmps36
    go_wp2_with (go_at_call 71; refine (rsize_calls _ _ (by omega) (by omega)).mono ?_; rintro e w1 ⟨rfl, hB⟩)
    go_ret
    exact ⟨ret_eq E.out.symm, hB⟩
  · have hb : (sizeL n == 0) = false := by simpa using hs
    obtain ⟨f1, f2, f3, f4, f5, f6, _⟩ := cls_facts n hs
    have HL := Lib.hid (pages_lo n hs)
    have HH := Lib.hid (pages_hi n hs)
    obtain ⟨p, hp⟩ : ∃ p : Nat, pagesL n = p := ⟨(pagesL n).toNat, by omega⟩
    have hp1 : 1 ≤ p ∧ p ≤ 4 := by omega
    have HP := Lib.hid hp
    clear hs hp f5 f6
    go_enter Tryz.func36, Tryz.ntmps36
    go_wp2_with (go_at_call 71; refine (rsize_calls _ _ (by omega) (by omega)).mono ?_; rintro e w1 ⟨rfl, hB⟩)
    go_loop [4] (fun i => ∃ j : Nat, 1 ≤ j ∧ j ≤ p ∧ i = .int .i64 j) (fun i => p - (intOf i).toNat)
    case atStart => exact ⟨1, Nat.le_refl _, hp1.1, rfl⟩
    case round =>
      obtain ⟨j, hj1, hj2, rfl⟩ := hrel
      have hm0 := Int.emod_nonneg (512 * (j : Int)) (show sizeL n ≠ 0 by omega)
      have hm1 := Int.emod_lt_of_pos (512 * (j : Int)) (show 0 < sizeL n by omega)
      by_cases hlt : j < p
      · have F := HL.out j hj1 (by rw [HP.out]; omega)
        rw [Int.mul_comm (j : Int) 512] at F
        go_wp2
        exact ⟨⟨j + 1, by omega, by omega, by go_num⟩, by simp [intOf]; omega⟩
      · have hjp : j = p := by omega
        subst hjp
        have F := HH.out j HP.out.symm
        rw [Int.mul_comm (j : Int) 512] at F
        go_wp2
        all_goals go_ret
        exact ⟨ret_eq HP.out.symm, hB⟩

set_option maxHeartbeats 1000000 in
theorem rper_calls (n : Int) (w : World) (h0 : -9223372036854775808 ≤ n) (h1 : n ≤ 9223372036854775807) :
    Calls Tryz.prog 72 #[.int .i64 n] w fun e w' => e = .returned (.int .i64 (perL n)) ∧ Below w.heap.size w w' := by
  by_cases hs : sizeL n = 0
  · have E := Lib.hid (show perL n = 0 by unfold perL; rw [if_pos hs])
    have hb : (sizeL n == 0) = true := by simpa using hs
    clear hs
    go_enter Tryz.func72, Tryz.ntmps72
    go_wp2_with (go_at_call 71; refine (rsize_calls _ _ (by omega) (by omega)).mono ?_; rintro e w1 ⟨rfl, hB⟩)
    go_ret
    exact ⟨ret_eq E.out.symm, hB⟩
  · have hb : (sizeL n == 0) = false := by simpa using hs
    obtain ⟨f1, f2, f3, f4, f5, f6, _⟩ := cls_facts n hs
    have E := Lib.hid (show perL n = 512 * pagesL n / sizeL n by unfold perL; rw [if_neg hs, Int.mul_comm])
    clear hs
    go_enter Tryz.func72, Tryz.ntmps72
    go_wp2_with (first | (go_at_call 71; refine (rsize_calls _ _ (by omega) (by omega)).mono ?_; rintro e w1 ⟨rfl, hB⟩) | (go_at_call 36; refine (rpages_calls _ _ (by omega) (by omega)).mono ?_; rintro e w2 ⟨rfl, hB2⟩))
    go_ret
    exact ⟨ret_eq E.out.symm, bel_next hB hB2 (Nat.le_refl _)⟩

theorem rlarge_calls (s : Int) (w : World) (h0 : -9223372036854775808 ≤ s) (h1 : s ≤ 9223372036854775807) :
    Calls Tryz.prog 33 #[.int .i64 s] w fun e w' => e = .returned (.int .i64 (largeL s)) ∧ w = w' := by
  go_enter Tryz.func33, Tryz.ntmps33
  go_wp2
  all_goals go_ret
  all_goals refine ⟨ret_eq ?_, rfl⟩
  all_goals unfold largeL
  all_goals split <;> omega

theorem of_facts (s : Int) (h : ¬ ofL s < 0) : 1 ≤ s ∧ s ≤ 1024 ∧ ofL s ≤ 19 ∧ s ≤ sizeL (ofL s) ∧ sizeL (ofL s - 1) < s ∧ (64 < s → 4 * (sizeL (ofL s) - s) < s + 4 ∧ sizeL (ofL s + 1) ≠ sizeL (ofL s)) := by
  have hs : 1 ≤ s ∧ s ≤ 1024 := by
    unfold ofL at h
    split at h
    · omega
    · split at h <;> omega
  have := of_fin ⟨s.toNat, by omega⟩
  simp only [Int.toNat_of_nonneg (show 0 ≤ s by omega)] at this
  have h2 : ¬ s.toNat = 0 := by omega
  have h3 : (64 < s.toNat) ↔ 64 < s := by omega
  rw [h3] at this
  refine ⟨hs.1, hs.2, ?_⟩
  rcases this with h4 | h4
  · exact absurd h4 h2
  · exact ⟨h4.2.1, h4.2.2.1, h4.2.2.2.1, h4.2.2.2.2⟩
theorem ofL_bd (s : Int) : -1 ≤ ofL s ∧ ofL s ≤ 19 := by
  by_cases h : ofL s < 0
  · unfold ofL at h ⊢
    repeat (split at h <;> first | omega | skip)
    all_goals (repeat (split <;> first | omega | skip))
  · have := of_facts s h; omega

theorem rem20 (n : Int) : 0 ≤ (n.tmod 20 + 20).tmod 20 ∧ (n.tmod 20 + 20).tmod 20 ≤ 19 ∧ -19 ≤ n.tmod 20 ∧ n.tmod 20 ≤ 19 := by
  have h1 := Int.natAbs_tmod n 20
  have h2 : (Int.natAbs n) % (Int.natAbs 20) < 20 := Nat.mod_lt _ (by decide)
  have h3 : -19 ≤ n.tmod 20 ∧ n.tmod 20 ≤ 19 := by omega
  rw [Int.tmod_eq_emod_of_nonneg (show 0 ≤ n.tmod 20 + 20 by omega)]
  omega

end Go.Proofs.YtadbbknllakpcaaGreat
