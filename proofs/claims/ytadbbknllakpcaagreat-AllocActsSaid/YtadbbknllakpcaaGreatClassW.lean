/- The walks through package class: each function computes its plain counterpart and leaves the world as it was. -/
import Derived.Test.YtadbbknllakpcaaGreatClass
namespace Go.Proofs.YtadbbknllakpcaaGreat
open Go.RowKit
set_option linter.unusedVariables false

theorem lg64 : lg 64 = 6 := by decide
theorem lg128 : lg 128 = 7 := by decide
theorem lg256 : lg 256 = 8 := by decide
theorem lg512 : lg 512 = 9 := by decide
theorem lg1024 : lg 1024 = 10 := by decide

set_option maxHeartbeats 4000000 in
theorem size_calls (n : Int) (w : World) (h0 : -9223372036854775808 ≤ n) (h1 : n ≤ 9223372036854775807) :
    Calls Tryz.prog 45 #[.int .i64 n] w fun e w' => e = .returned (.int .i64 (sizeL n)) ∧ w = w' := by
  have e64 := lg64
  have e1024 := lg1024
  rcases cls_cases n with h | h | h
  · have E := Lib.hid (sizeL_neg n h)
    clear e64 e1024
    go_enter Tryz.func45, Tryz.ntmps45
    go_wp2
    go_ret
    exact ⟨ret_eq E.out.symm, rfl⟩
  · have E := Lib.hid (sizeL_big n h)
    go_enter Tryz.func45, Tryz.ntmps45
    go_wp2_with (go_at_call 58; refine (log_calls _ _ (by omega) (by omega)).mono ?_; rintro e w' ⟨rfl, rfl⟩)
    go_ret
    exact ⟨ret_eq E.out.symm, rfl⟩
  · clear h0 h1
    rcases h with rfl | rfl | rfl | rfl | rfl | rfl | rfl | rfl | rfl | rfl | rfl | rfl | rfl | rfl | rfl | rfl | rfl | rfl | rfl | rfl
    all_goals
      go_enter Tryz.func45, Tryz.ntmps45
      go_wp2_with (go_at_call 58; refine (log_calls _ _ (by omega) (by omega)).mono ?_; rintro e w' ⟨rfl, rfl⟩)
      go_ret
      exact ⟨ret_eq (by decide +kernel), rfl⟩

theorem lg_up (x : Nat) (u : Nat) (h0 : 2 ^ u ≤ x) (h1 : x < 2 ^ (u + 1)) : lg x = u := by
  unfold lg
  have hx : x ≠ 0 := by have := pow_pos2 u; omega
  rw [if_neg hx]
  have a := (Nat.log2_lt (k := u + 1) hx).2 h1
  have b := (Nat.le_log2 (k := u) hx).2 h0
  omega

theorem ofL_a (s : Int) (h : s < 1) : ofL s = -1 := by unfold ofL; rw [if_pos h]
theorem ofL_b (s : Int) (h : 1024 < s) : ofL s = -1 := by unfold ofL; rw [if_neg (by omega), if_pos h]
theorem ofL_c (s : Int) (h : 1 ≤ s) (h2 : s ≤ 64) : ofL s = (s - 1) / 16 := by unfold ofL; rw [if_neg (by omega), if_neg (by omega), if_pos h2]
theorem ofL_d (s : Int) (h : 64 < s) (h2 : s ≤ 128) : ofL s = 4 + (s - 65) / 16 := by unfold ofL; rw [if_neg (by omega), if_neg (by omega), if_neg (by omega), if_pos h2]
theorem ofL_e (s : Int) (h : 128 < s) (h2 : s ≤ 256) : ofL s = 8 + (s - 129) / 32 := by unfold ofL; rw [if_neg (by omega), if_neg (by omega), if_neg (by omega), if_neg (by omega), if_pos h2]
theorem ofL_f (s : Int) (h : 256 < s) (h2 : s ≤ 512) : ofL s = 12 + (s - 257) / 64 := by unfold ofL; rw [if_neg (by omega), if_neg (by omega), if_neg (by omega), if_neg (by omega), if_neg (by omega), if_pos h2]
theorem ofL_g (s : Int) (h : 512 < s) (h2 : s ≤ 1024) : ofL s = 16 + (s - 513) / 128 := by unfold ofL; rw [if_neg (by omega), if_neg (by omega), if_neg (by omega), if_neg (by omega), if_neg (by omega), if_neg (by omega)]

set_option maxHeartbeats 4000000 in
theorem of_calls14 (s : Int) (w : World) (h0 : -9223372036854775808 ≤ s) (h1 : s ≤ 9223372036854775807) :
    Calls Tryz.prog 24 #[.int .i64 s] w fun e w' => e = .returned (.int .i64 (ofL s)) ∧ w = w' := by
  have e64 := lg64
  have e128 := lg128
  have e256 := lg256
  have e512 := lg512
  by_cases c1 : s < 1
  · go_enter Tryz.func24, Tryz.ntmps24
    go_wp2
    go_ret
    exact ⟨ret_eq (by rw [ofL_a s (by omega)]; first | done | omega | (simp; omega)), rfl⟩
  · by_cases c2 : 1024 < s
    · go_enter Tryz.func24, Tryz.ntmps24
      go_wp2
      go_ret
      exact ⟨ret_eq (by rw [ofL_b s (by omega)]; first | done | omega | (simp; omega)), rfl⟩
    · by_cases c3 : s ≤ 64
      · go_enter Tryz.func24, Tryz.ntmps24
        go_wp2
        go_ret
        exact ⟨ret_eq (by rw [ofL_c s (by omega) (by omega)]; first | done | omega | (simp; omega)), rfl⟩
      · by_cases c4 : s ≤ 128
        · have E := lg_up (s.toNat - 1) 6 (by simp; omega) (by simp; omega)
          go_enter Tryz.func24, Tryz.ntmps24
          go_wp2_with (go_at_call 58; refine (log_calls _ _ (by omega) (by omega)).mono ?_; rintro e w' ⟨rfl, rfl⟩)
          go_ret
          exact ⟨ret_eq (by rw [ofL_d s (by omega) (by omega)]; first | done | omega | (simp; omega)), rfl⟩
        · by_cases c5 : s ≤ 256
          · have E := lg_up (s.toNat - 1) 7 (by simp; omega) (by simp; omega)
            go_enter Tryz.func24, Tryz.ntmps24
            go_wp2_with (go_at_call 58; refine (log_calls _ _ (by omega) (by omega)).mono ?_; rintro e w' ⟨rfl, rfl⟩)
            go_ret
            exact ⟨ret_eq (by rw [ofL_e s (by omega) (by omega)]; first | done | omega | (simp; omega)), rfl⟩
          · by_cases c6 : s ≤ 512
            · have E := lg_up (s.toNat - 1) 8 (by simp; omega) (by simp; omega)
              go_enter Tryz.func24, Tryz.ntmps24
              go_wp2_with (go_at_call 58; refine (log_calls _ _ (by omega) (by omega)).mono ?_; rintro e w' ⟨rfl, rfl⟩)
              go_ret
              exact ⟨ret_eq (by rw [ofL_f s (by omega) (by omega)]; first | done | omega | (simp; omega)), rfl⟩
            · have E := lg_up (s.toNat - 1) 9 (by simp; omega) (by simp; omega)
              go_enter Tryz.func24, Tryz.ntmps24
              go_wp2_with (go_at_call 58; refine (log_calls _ _ (by omega) (by omega)).mono ?_; rintro e w' ⟨rfl, rfl⟩)
              go_ret
              exact ⟨ret_eq (by rw [ofL_g s (by omega) (by omega)]; first | done | omega | (simp; omega)), rfl⟩

set_option maxHeartbeats 1000000 in
theorem pages_calls (n : Int) (w : World) (h0 : -9223372036854775808 ≤ n) (h1 : n ≤ 9223372036854775807) :
    Calls Tryz.prog 28 #[.int .i64 n] w fun e w' => e = .returned (.int .i64 (pagesL n)) ∧ w = w' := by
  by_cases hs : sizeL n = 0
  · have E := Lib.hid (pagesL_zero n hs)
    have hb : (sizeL n == 0) = true := by simpa using hs
    clear hs
    go_enter Tryz.func28, Tryz.ntmps28
    go_wp2_with (go_at_call 45; refine (size_calls _ _ (by omega) (by omega)).mono ?_; rintro e w' ⟨rfl, rfl⟩)
    go_ret
    exact ⟨ret_eq E.out.symm, rfl⟩
  · have hb : (sizeL n == 0) = false := by simpa using hs
    obtain ⟨f1, f2, f3, f4, f5, f6, _⟩ := cls_facts n hs
    have HL := Lib.hid (pages_lo n hs)
    have HH := Lib.hid (pages_hi n hs)
    obtain ⟨p, hp⟩ : ∃ p : Nat, pagesL n = p := ⟨(pagesL n).toNat, by omega⟩
    have hp1 : 1 ≤ p ∧ p ≤ 4 := by omega
    have HP := Lib.hid hp
    clear hs hp f5 f6
    go_enter Tryz.func28, Tryz.ntmps28
    go_wp2_with (go_at_call 45; refine (size_calls _ _ (by omega) (by omega)).mono ?_; rintro e w' ⟨rfl, rfl⟩)
    go_loop [4] (fun i => ∃ j : Nat, 1 ≤ j ∧ j ≤ p ∧ i = .int .i64 j) (fun i => p - (intOf i).toNat)
    case atStart => exact ⟨1, Nat.le_refl _, hp1.1, rfl⟩
    case round =>
      obtain ⟨j, hj1, hj2, rfl⟩ := hrel
      by_cases hlt : j < p
      · have F := HL.out j hj1 (by rw [HP.out]; omega)
        go_wp2
        exact ⟨⟨j + 1, by omega, by omega, by go_num⟩, by simp [intOf]; omega⟩
      · have hjp : j = p := by omega
        subst hjp
        have F := HH.out j HP.out.symm
        go_wp2
        all_goals go_ret
        exact ⟨ret_eq HP.out.symm, rfl⟩

set_option maxHeartbeats 1000000 in
theorem per_calls (n : Int) (w : World) (h0 : -9223372036854775808 ≤ n) (h1 : n ≤ 9223372036854775807) :
    Calls Tryz.prog 65 #[.int .i64 n] w fun e w' => e = .returned (.int .i64 (perL n)) ∧ w = w' := by
  by_cases hs : sizeL n = 0
  · have E := Lib.hid (show perL n = 0 by unfold perL; rw [if_pos hs])
    have hb : (sizeL n == 0) = true := by simpa using hs
    clear hs
    go_enter Tryz.func65, Tryz.ntmps65
    go_wp2_with (go_at_call 45; refine (size_calls _ _ (by omega) (by omega)).mono ?_; rintro e w' ⟨rfl, rfl⟩)
    go_ret
    exact ⟨ret_eq E.out.symm, rfl⟩
  · have hb : (sizeL n == 0) = false := by simpa using hs
    obtain ⟨f1, f2, f3, f4, f5, f6, _⟩ := cls_facts n hs
    have E := Lib.hid (show perL n = pagesL n * 512 / sizeL n by unfold perL; rw [if_neg hs])
    clear hs
    go_enter Tryz.func65, Tryz.ntmps65
    go_wp2_with (first | (go_at_call 45; refine (size_calls _ _ (by omega) (by omega)).mono ?_; rintro e w' ⟨rfl, rfl⟩) | (go_at_call 28; refine (pages_calls _ _ (by omega) (by omega)).mono ?_; rintro e w' ⟨rfl, rfl⟩))
    go_ret
    exact ⟨ret_eq E.out.symm, rfl⟩

theorem large_calls (s : Int) (w : World) (h0 : -9223372036854775808 ≤ s) (h1 : s ≤ 9223372036854775807) :
    Calls Tryz.prog 59 #[.int .i64 s] w fun e w' => e = .returned (.int .i64 (largeL s)) ∧ w = w' := by
  go_enter Tryz.func59, Tryz.ntmps59
  go_wp2
  all_goals go_ret
  all_goals refine ⟨ret_eq ?_, rfl⟩
  all_goals unfold largeL
  all_goals split <;> omega
end Go.Proofs.YtadbbknllakpcaaGreat
