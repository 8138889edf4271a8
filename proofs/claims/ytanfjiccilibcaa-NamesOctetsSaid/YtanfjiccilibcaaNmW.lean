/- The walks through package names: good, bit, Compare, at, Find, Name. -/
import Derived.Test.YtanfjiccilibcaaNmP
import Derived.Test.YtanfjiccilibcaaApp
import Derived.Deep.LoopGhost
import Derived.Laws.BitsAllLaws
import Derived.BigQuiet
namespace Go.Proofs.Ytanfjiccilibcaa
open Go.RowKit
set_option linter.unusedVariables false

def goodB (s : ByteArray) : Bool := decide (1 ≤ s.size ∧ s.size ≤ 32)
theorem good_calls (s : ByteArray) (w : World) : Calls Try.prog 25 #[.string s] w fun e w' => e = .returned (.bool (goodB s)) ∧ w = w' := by
  obtain ⟨n, hn⟩ : ∃ n, s.size = n := ⟨_, rfl⟩
  unfold goodB
  rw [hn]
  by_cases h1 : 1 ≤ n
  · by_cases h2 : n ≤ 32
    · rw [decide_eq_true ⟨h1, h2⟩]
      go_enter Try.func25, Try.ntmps25
      go_wp2
      go_ret
      exact ⟨ret_bool (decide_eq_true (by omega)), rfl⟩
    · rw [decide_eq_false (fun h => h2 h.2)]
      go_enter Try.func25, Try.ntmps25
      go_wp2
      go_ret
      exact ⟨ret_bool (decide_eq_false (by omega)), rfl⟩
  · rw [decide_eq_false (fun h => h1 h.1)]
    go_enter Try.func25, Try.ntmps25
    go_wp2
    go_ret
    exact ⟨rfl, rfl⟩
theorem one_shl13 (b : Nat) (h : b < 64) : IntKind.u64.wrap (2 ^ b) = ((2 ^ b : Nat) : Int) := by
  have : ∀ c : Fin 64, IntKind.u64.wrap (2 ^ c.val) = ((2 ^ c.val : Nat) : Int) := by decide +kernel
  exact this ⟨b, h⟩
theorem bit_calls (h : Int) (w : World) (hh : -9223372036854775808 ≤ h ∧ h ≤ 9223372036854775807) : Calls Try.prog 26 #[.int .i64 h] w fun e w' => e = .returned (.int .u64 (bitN h : Nat)) ∧ w = w' := by
  by_cases h1 : h < 1
  · rw [(bitN_zero h).2 (by omega)]
    go_enter Try.func26, Try.ntmps26
    go_wp2
    go_ret
    exact ⟨rfl, rfl⟩
  · by_cases h2 : 64 < h
    · rw [(bitN_zero h).2 (by omega)]
      go_enter Try.func26, Try.ntmps26
      go_wp2
      go_ret
      exact ⟨rfl, rfl⟩
    · obtain ⟨b, rfl⟩ : ∃ b : Nat, h = (b : Int) + 1 := ⟨(h - 1).toNat, by omega⟩
      have e : bitN ((b : Int) + 1) = 2 ^ b := by unfold bitN; rw [if_pos (by omega)]; congr 1; omega
      have hb : b < 64 := by omega
      have hs := one_shl13 b hb
      rw [e]
      go_enter Try.func26, Try.ntmps26
      go_wp2
      go_ret
      exact ⟨ret_eq (by simp), rfl⟩
theorem nan_calls (s : ByteArray) (w : World) : Calls Try.prog 49 #[.string s] w fun e w' => e = .returned (.bool false) ∧ w = w' := by
  go_enter Try.func49, Try.ntmps49
  go_wp2
  go_ret
  exact ⟨ret_bool (by simp), rfl⟩
theorem compare_calls (a b : ByteArray) (w : World) : Calls Try.prog 41 #[.string a, .string b] w fun e w' => e = .returned (.int .i64 (cmpS a b)) ∧ w = w' := by
  have hgt : Op.stringOp .gtr a b = pure (Value.bool (lt b a)) := by
    have e : (!(lt a b || a.toList == b.toList)) = lt b a := by
      cases h1 : lt a b
      · cases h2 : lt b a
        · rw [lt_tri h1 h2]; simp
        · have := (lt_ne h2).symm
          rw [ba_beq, decide_eq_false this]; rfl
      · rw [lt_asymm h1]; rfl
    show (pure (Value.bool (!(lt a b || a.toList == b.toList))) : Sem Value) = _
    rw [e]
  have hgt2 : ∀ t, binOp .gtr t (.string a) (.string b) = pure (Value.bool (lt b a)) := fun t => by simp [binOp, hgt]
  clear hgt
  unfold cmpS
  cases h1 : lt a b
  · have h1' : Op.bytesLess a.toList b.toList = false := h1
    cases h2 : lt b a
    · rw [h2] at hgt2
      go_enter Try.func41, Try.ntmps41
      go_wp2_with (first | (refine (nan_calls _ _).mono ?_; rintro e w2 ⟨rfl, rfl⟩) | (simp only [hgt2]))
      go_ret
      exact ⟨rfl, rfl⟩
    · rw [h2] at hgt2
      go_enter Try.func41, Try.ntmps41
      go_wp2_with (first | (refine (nan_calls _ _).mono ?_; rintro e w2 ⟨rfl, rfl⟩) | (simp only [hgt2]))
      go_ret
      exact ⟨rfl, rfl⟩
  · have h1' : Op.bytesLess a.toList b.toList = true := h1
    go_enter Try.func41, Try.ntmps41
    go_wp2_with (first | (refine (nan_calls _ _).mono ?_; rintro e w2 ⟨rfl, rfl⟩) | (simp only [hgt2]))
    go_ret
    exact ⟨rfl, rfl⟩
end Go.Proofs.Ytanfjiccilibcaa
