/- The greatest bit: plain mathematics and the walk of ints.Log. -/
import Derived.Test.YtadbbknllakpcaaGreatBase
namespace Go.Proofs.YtadbbknllakpcaaGreat
open Go.RowKit
set_option linter.unusedVariables false

def lg (x : Nat) : Int := if x = 0 then -1 else (Nat.log2 x : Int)
theorem lg_zero : lg 0 = -1 := rfl
theorem lg_half (x : Nat) (h : 0 < x) : lg x = lg (x / 2) + 1 := by
  unfold lg
  rw [if_neg (by omega), Nat.log2_def]
  by_cases h2 : 2 ≤ x
  · rw [if_pos h2, if_neg (by omega)]; omega
  · rw [if_neg h2, if_pos (by omega)]; omega
theorem lg_bd (x : Nat) (h : x < 18446744073709551616) : -1 ≤ lg x ∧ lg x ≤ 63 := by
  unfold lg
  split
  · omega
  · rename_i hx
    have := (Nat.log2_lt (k := 64) hx).2 h
    omega
theorem lg_nonneg (x : Nat) (h : 0 < x) : 0 ≤ lg x := by unfold lg; rw [if_neg (by omega)]; omega
theorem lg_shift (s : Nat) : ∀ x : Nat, 0 < x / 2 ^ s → lg x = lg (x / 2 ^ s) + s := by
  induction s with
  | zero => intro x h; simp
  | succ s ih =>
    intro x h
    rw [Nat.pow_succ, ← Nat.div_div_eq_div_mul] at h ⊢
    rw [ih x (by omega), lg_half (x / 2 ^ s) (by omega)]
    omega

/-- What holds at the head of a round of Log: steps 2^5, .., 1, 0. -/
def LgInv (v s x : Nat) (n : Int) : Prop := (s = 32 ∨ s = 16 ∨ s = 8 ∨ s = 4 ∨ s = 2 ∨ s = 1 ∨ s = 0) ∧ x < 2 ^ (if s = 0 then 1 else 2 * s) ∧ n + 1 + lg x = lg v
theorem lgInv_start (v : Nat) (h : v < 18446744073709551616) : LgInv v 32 v (-1) := ⟨by omega, by simpa using h, by omega⟩
theorem lgInv_bd {v s x : Nat} {n : Int} (hv : v < 18446744073709551616) (h : LgInv v s x n) : x < 18446744073709551616 ∧ s ≤ 32 ∧ -100 ≤ n ∧ n ≤ 100 := by
  obtain ⟨h1, h2, h3⟩ := h
  have hx : x < 18446744073709551616 := by
    rcases h1 with rfl | rfl | rfl | rfl | rfl | rfl | rfl <;> simp at h2 <;> omega
  have a := lg_bd x hx
  have b := lg_bd v hv
  omega
theorem lgInv_yes {v s x : Nat} {n : Int} (h : LgInv v s x n) (hs : 0 < s) (hx : 0 < x / 2 ^ s) : LgInv v (s / 2) (x / 2 ^ s) (n + s) := by
  obtain ⟨h1, h2, h3⟩ := h
  refine ⟨by omega, ?_, by rw [lg_shift s x hx] at h3; omega⟩
  rcases h1 with rfl | rfl | rfl | rfl | rfl | rfl | rfl <;> simp at h2 ⊢ <;> omega
theorem lgInv_no {v s x : Nat} {n : Int} (h : LgInv v s x n) (hs : 0 < s) (hx : x / 2 ^ s = 0) : LgInv v (s / 2) x n := by
  obtain ⟨h1, h2, h3⟩ := h
  refine ⟨by omega, ?_, h3⟩
  rcases h1 with rfl | rfl | rfl | rfl | rfl | rfl | rfl <;> simp at h2 hx ⊢ <;> omega
theorem lgInv_end {v x : Nat} {n : Int} (h : LgInv v 0 x n) : n + x = lg v := by
  obtain ⟨h1, h2, h3⟩ := h
  simp at h2
  rcases (show x = 0 ∨ x = 1 by omega) with rfl | rfl
  · rw [lg_zero] at h3; omega
  · have : lg 1 = 0 := by decide
    rw [this] at h3; omega

set_option maxHeartbeats 400000 in
theorem log_calls (u : Int) (w : World) (h0 : 0 ≤ u) (h1 : u ≤ 18446744073709551615) :
    Calls Tryz.prog 58 #[.int .u64 u] w fun e w' => e = .returned (.int .i64 (lg u.toNat)) ∧ w = w' := by
  obtain ⟨v, rfl⟩ := Int.eq_ofNat_of_zero_le h0
  have hv : v < 18446744073709551616 := by omega
  clear h0 h1
  go_enter Tryz.func58, Tryz.ntmps58
  go_wp2
  go_loop [0, 3, 4] (fun u m st => ∃ (s x : Nat) (n : Int), u = .int .u64 x ∧ m = .int .i64 n ∧ st = .int .u64 s ∧ Hid (LgInv v s x n)) (fun _ _ st => (intOf st).toNat)
  case atStart => exact ⟨32, v, -1, rfl, rfl, rfl, Lib.hid (lgInv_start v hv)⟩
  case round =>
    obtain ⟨s, x, n, rfl, rfl, rfl, hI⟩ := hrel
    obtain ⟨b1, b2, b3, b4⟩ := lgInv_bd hv hI.out
    by_cases hs : 0 < s
    · obtain ⟨y, hy⟩ : ∃ y, x / 2 ^ s = y := ⟨_, rfl⟩
      have hyi : (x : Int) / 2 ^ s = (y : Int) := by rw [← hy]; simp
      have hyl : y ≤ x := by rw [← hy]; exact Nat.div_le_self _ _
      have HY := Lib.hid hy
      clear hy
      by_cases hc : 0 < y
      · have hn := Lib.hid (lgInv_yes hI.out hs (by rw [HY.out]; exact hc))
        go_wp2
        refine ⟨⟨s / 2, y, n + s, rfl, rfl, by go_num, ?_⟩, by simp [intOf]; omega⟩
        rw [← HY.out]
        exact hn
      · have hn := Lib.hid (lgInv_no hI.out hs (by rw [HY.out]; omega))
        go_wp2
        exact ⟨⟨s / 2, x, n, rfl, rfl, by go_num, hn⟩, by simp [intOf]; omega⟩
    · have hs0 : s = 0 := by omega
      subst hs0
      have he := lgInv_end hI.out
      have hx2 : x < 2 := by have := hI.out.2.1; simpa using this
      have HE := Lib.hid he
      clear he
      go_wp2
      go_ret
      exact ⟨ret_eq HE.out, rfl⟩

end Go.Proofs.YtadbbknllakpcaaGreat
