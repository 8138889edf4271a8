/- Plain mathematics and the walk of IntsShorts. -/
import Derived.Test.YtebkikmgjmmnpaaIntsX
import Derived.Test.YtebkikmgjmmnpaaIntsL
namespace Go.Proofs.Ytebkikmgjmmnpaa
open Go.RowKit
set_option linter.unusedVariables false

theorem sg_iff (n k : Int) (d : Nat) (hd : (cnt k 64).toNat = d + 1) : sgL n k = n ↔ -2 ^ d ≤ n ∧ n < 2 ^ d := by
  rw [sgL_pos n k d hd]
  have hh : (1 : Int) ≤ 2 ^ d := by have := pow_pos2 d; have e := pow_cast d; omega
  have d0 := Int.emod_nonneg (n + 2 ^ d) (show (2 * 2 ^ d : Int) ≠ 0 by omega)
  have d1 := Int.emod_lt_of_pos (n + 2 ^ d) (show (0 : Int) < 2 * 2 ^ d by omega)
  constructor
  · intro h; omega
  · intro h; rw [Int.emod_eq_of_lt (by omega) (by omega)]; omega

theorem short_more (n k : Int) (h1 : 1 ≤ k) (h2 : k ≤ 63) (h : sgL n k = n) : sgL n (k + 1) = n := by
  obtain ⟨d, hd⟩ : ∃ d : Nat, k = (d : Int) + 1 := ⟨(k - 1).toNat, by omega⟩
  have c1 : (cnt k 64).toNat = d + 1 := by unfold cnt; omega
  have c2 : (cnt (k + 1) 64).toNat = (d + 1) + 1 := by unfold cnt; omega
  rw [sg_iff n k d c1] at h
  rw [sg_iff n (k + 1) (d + 1) c2, Int.pow_succ]
  have hh : (1 : Int) ≤ 2 ^ d := by have := pow_pos2 d; have e := pow_cast d; omega
  omega

theorem byte_of (n k : Int) (h1 : 1 ≤ k) (h2 : k ≤ 63) (h : sgL n k = n) (i : Nat) (hi : k ≤ 8 * (i : Int)) (hi8 : i < 8) :
    U n / 2 ^ (8 * i) % 256 = if n < 0 then 255 else 0 := by
  obtain ⟨d, hd⟩ : ∃ d : Nat, k = (d : Int) + 1 := ⟨(k - 1).toNat, by omega⟩
  have c1 : (cnt k 64).toNat = d + 1 := by unfold cnt; omega
  rw [sg_iff n k d c1] at h
  have hp : 2 ^ d ≤ 2 ^ (8 * i) := Nat.pow_le_pow_right (by omega) (by omega)
  have hp' : (2 : Int) ^ d ≤ ((2 ^ (8 * i) : Nat) : Int) := by have := pow_cast d; omega
  have hU : U n = (n % 18446744073709551616).toNat := rfl
  clear hp hd c1 hi
  rw [hU]
  clear hU
  match i, hi8 with
  | 0, _ => simp at hp'; split <;> omega
  | 1, _ => simp at hp'; simp; split <;> omega
  | 2, _ => simp at hp'; simp; split <;> omega
  | 3, _ => simp at hp'; simp; split <;> omega
  | 4, _ => simp at hp'; simp; split <;> omega
  | 5, _ => simp at hp'; simp; split <;> omega
  | 6, _ => simp at hp'; simp; split <;> omega
  | 7, _ => simp at hp'; simp; split <;> omega

theorem lay_at (n : Int) (m j : Nat) (h : j < m) : ((layL n m).map (Value.int .u8))[j]? = some (.int .u8 ((U n / 2 ^ (8 * j) % 256 : Nat) : Int)) := by
  simp [layL, h]

theorem ownsRow_eight {w : World} {base : Nat} {e : TypeId} {v : Value} {n : Nat} {xs : List Value} (h : w.ownsRow base e 1 v (n + 1) xs) : ∃ g cap, v = .slice (some ⟨g, 0, none⟩) (n + 1) cap := by
  rcases ownsRow_form h with ⟨_, h0⟩ | ⟨g, cap, hv, _⟩
  · omega
  · exact ⟨g, cap, hv⟩

set_option maxHeartbeats 1000000 in
theorem shorts_walk (n k : Int) (w : World) (wn : (Lit.int .i64 n).wf = true) (wk : (Lit.int .i64 k).wf = true) :
    Calls Try.prog 5 #[.int .i64 n, .int .i64 k] w fun e w' => e = .returned (.bool true) ∧ Below w.heap.size w w' := by
  obtain ⟨hn', hn⟩ := wf_i64 wn
  obtain ⟨hk', hk⟩ := wf_i64 wk
  clear wn wk
  by_cases c1 : k < 1
  · go_enter Try.func5, Try.ntmps5
    go_wp2_with fail
    refine (awake_calls _).mono ?_
    rintro e w1 ⟨rfl, hb⟩
    go_wp2_with fail
    refine (awake_calls _).mono ?_
    rintro e w2 ⟨rfl, hb2⟩
    go_wp2
    go_ret
    exact ⟨rfl, hb.trans (hb2.mono hb.size)⟩
  · by_cases c2 : 63 < k
    · go_enter Try.func5, Try.ntmps5
      go_wp2_with fail
      refine (awake_calls _).mono ?_
      rintro e w1 ⟨rfl, hb⟩
      go_wp2_with fail
      refine (awake_calls _).mono ?_
      rintro e w2 ⟨rfl, hb2⟩
      go_wp2
      go_ret
      exact ⟨rfl, hb.trans (hb2.mono hb.size)⟩
    · by_cases hs : sgL n k = n
      · have s1 : (sgL n k == n) = true := by simpa using hs
        have s2 : (sgL n (k + 1) == n) = true := by have := short_more n k (by omega) (by omega) hs; simpa using this
        have hbyte := Lib.hid (byte_of n k (by omega) (by omega) hs)
        clear hs
        go_enter Try.func5, Try.ntmps5
        go_wp2_with fail
        refine (awake_calls _).mono ?_
        rintro e w1 ⟨rfl, hb⟩
        go_wp2_with (go_at_call 15; refine (short_calls _ _ _ hn hn').mono ?_; rintro e w' ⟨rfl, rfl⟩)
        refine (lay_calls n 8 _ hn hn').mono ?_
        rintro e w2 ⟨v, rfl, hown, hb2⟩
        rw [show (cnt 8 8).toNat = 8 from by decide] at hown
        obtain ⟨g, cap, rfl⟩ := ownsRow_eight hown
        have hcell : ∀ j : Nat, k ≤ 8 * (j : Int) → j < 8 → w2.cell? ⟨g, j, none⟩ = some (.int .u8 (if n < 0 then 255 else 0)) := fun j h1 h2 => by
          rw [ownsRow_cell hown j h2, lay_at n 8 j h2, hbyte.out j h1 h2]
          split <;> rfl
        have HC := Lib.hid hcell
        clear hcell hown hbyte
        have hB := hb.trans (hb2.mono hb.size)
        clear hb hb2
        have hq : 0 ≤ (k + 7) / 8 ∧ k ≤ 8 * ((k + 7) / 8) := by omega
        go_wp2_with (go_at_call 15; refine (short_calls _ _ _ hn hn').mono ?_; rintro e w' ⟨rfl, rfl⟩)
        go_loop [6] (fun i => ∃ j : Nat, k ≤ 8 * (j : Int) ∧ i = .int .i64 j) (fun i => 8 - (intOf i).toNat)
        case atStart => exact ⟨((k + 7) / 8).toNat, by omega, by go_num⟩
        case round =>
          obtain ⟨j, hj, rfl⟩ := hrel
          by_cases hlt : j < 8
          · have hc := HC.out j hj hlt
            by_cases c3 : n < 0
            · rw [if_pos c3] at hc
              go_wp2
              exact ⟨⟨j + 1, by omega, by go_num⟩, by simp [intOf]; omega⟩
            · rw [if_neg c3] at hc
              go_wp2
              exact ⟨⟨j + 1, by omega, by go_num⟩, by simp [intOf]; omega⟩
          · go_wp2
            go_ret
            exact ⟨rfl, hB⟩
      · have s1 : (sgL n k == n) = false := by simpa using hs
        clear hs
        go_enter Try.func5, Try.ntmps5
        go_wp2_with fail
        refine (awake_calls _).mono ?_
        rintro e w1 ⟨rfl, hb⟩
        go_wp2_with (go_at_call 15; refine (short_calls _ _ _ hn hn').mono ?_; rintro e w' ⟨rfl, rfl⟩)
        refine (lay_calls n 8 _ hn hn').mono ?_
        rintro e w2 ⟨v, rfl, hown, hb2⟩
        rw [show (cnt 8 8).toNat = 8 from by decide] at hown
        obtain ⟨g, cap, rfl⟩ := ownsRow_eight hown
        clear hown
        go_wp2_with (go_at_call 15; refine (short_calls _ _ _ hn hn').mono ?_; rintro e w' ⟨rfl, rfl⟩)
        go_ret
        exact ⟨rfl, hb.trans (hb2.mono hb.size)⟩
end Go.Proofs.Ytebkikmgjmmnpaa
