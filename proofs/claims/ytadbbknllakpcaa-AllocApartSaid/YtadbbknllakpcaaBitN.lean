/- The walks through package bits: Next, Count. -/
import Derived.Test.YtadbbknllakpcaaBitT
import Derived.Test.YtadbbknllakpcaaBitL
namespace Go.Proofs.Ytadbbknllakpcaa
open Go.RowKit
set_option linter.unusedVariables false

/-- What the machine finds in a word that is not empty. -/
theorem word_low (y : Nat) (hy : y < 18446744073709551616) (h0 : y ≠ 0) : ∃ t z : Nat, t < 64 ∧ y.testBit t = true ∧ (∀ i, i < t → y.testBit i = false) ∧ z = 2 ^ t ∧ z < 18446744073709551616 ∧ lg z = t ∧ bits .and .u64 (y : Int) (IntKind.u64.wrap (-(y : Int))) = (z : Int) := by
  have hex : ∃ b, b < 64 ∧ y.testBit b = true := by
    by_cases h : ∃ b, b < 64 ∧ y.testBit b = true
    · exact h
    · exfalso
      apply h0
      apply Nat.eq_of_testBit_eq
      intro i
      rw [Nat.zero_testBit]
      by_cases hi : i < 64
      · cases hb : y.testBit i
        · rfl
        · exact absurd ⟨i, hi, hb⟩ h
      · exact Nat.testBit_lt_two_pow (Nat.lt_of_lt_of_le hy (Nat.pow_le_pow_right (n := 2) (i := 64) (by omega) (by omega)))
  obtain ⟨t, ht, h1, h2⟩ := least (p := fun b => y.testBit b) 64 hex
  exact ⟨t, 2 ^ t, ht, h1, h2, rfl, Nat.pow_lt_pow_right (a := 2) (n := 64) (by omega) ht, lg_pow t, low_bits hy h1 h2⟩
theorem shift_bit (f : Nat → Bool) (A j : Nat) : (wd f (A / 64) / 2 ^ (A % 64)).testBit j = (decide (j + A % 64 < 64) && f (A + j)) := by
  rw [Nat.testBit_div_two_pow, wd_testBit]
  have : 64 * (A / 64) + (j + A % 64) = A + j := by omega
  rw [this]

set_option maxHeartbeats 1000000 in
theorem count_row (w : World) (r a c n : Nat) (f g : Nat → Bool) (h : RowMid w r a c n f g) :
    Calls Try.prog 52 #[.pointer (some ⟨r, 0, none⟩)] w fun e w' => e = .returned (.int .i64 (cntF f n)) ∧ w = w' := by
  have hn := h.2.1
  have c1 := h.2.2.2.1.cell 1
  simp only [List.getElem?_cons_zero, List.getElem?_cons_succ] at c1
  have HM := Lib.hid h
  have hWn : wn n ≤ 1024 := by unfold wn; omega
  clear h
  go_enter Try.func52, Try.ntmps52
  go_wp2_with fail
  go_loopg [3, 11] (wn n) (fun q v i wr => ∃ j : Nat, q + j = wn n ∧ i = .int .i64 j ∧ v = .int .i64 (cntF f (64 * j) : Nat) ∧ w = wr)
  case atStart => exact ⟨0, by omega, rfl, rfl, rfl⟩
  case round =>
    obtain ⟨j, hj, rfl, rfl, rfl⟩ := hrel
    by_cases hlt : j < wn n
    · have cj := HM.out.2.2.2.2.1.cell j
      rw [fnV_at _ _ _ hlt] at cj
      go_wp2_with fail
      go_loopg [3, 5] (cntF f (64 * (j + 1))) (fun q v x wr => ∃ (hh : Nat → Bool) (y m : Nat), q = cntF hh (64 * (j + 1)) ∧ x = .int .u64 y ∧ v = .int .i64 m ∧ y < 18446744073709551616 ∧ m ≤ 200000 ∧ Hid (y = wd hh j ∧ m + cntF hh (64 * (j + 1)) = cntF f (64 * j) + cntF f (64 * (j + 1)) ∧ ∀ i, i < 64 * j → hh i = f i) ∧ w = wr)
      case atStart => exact ⟨f, wd f j, _, rfl, rfl, rfl, wd_lt _ _, (by have := cntF_le f (64 * j); omega), Lib.hid ⟨rfl, rfl, fun _ _ => rfl⟩, rfl⟩
      case round =>
        obtain ⟨hh, y, m, hq, rfl, rfl, hyl, hml, hI, rfl⟩ := hrel
        by_cases hy0 : y = 0
        · subst hy0
          have hend : m = cntF f (64 * (j + 1)) := by
            obtain ⟨e1, e2, e3⟩ := hI.out
            have hz := wd_eq_zero.1 e1.symm
            have e4 : cntF hh (64 * (j + 1)) = cntF hh (64 * j) := cntF_flat _ (by omega) (fun i h1 h2 => by
              have := hz (i - 64 * j) (by omega)
              rwa [show 64 * j + (i - 64 * j) = i by omega] at this)
            have e5 : cntF hh (64 * j) = cntF f (64 * j) := cntF_congr _ e3
            omega
          have HE := Lib.hid hend
          clear hend
          go_wp2
          go_roundg (wn n - (j + 1))
          case measure => omega
          case rel => exact ⟨j + 1, by omega, by go_num, by rw [HE.out], rfl⟩
        · obtain ⟨t, z, ht, h1, h2, hz, hzl, hlg, hbits⟩ := word_low y hyl hy0
          obtain ⟨hh', y', hy', hc, hI'⟩ : ∃ (hh' : Nat → Bool) (y' : Nat), y' < 18446744073709551616 ∧ bits .and .u64 (y : Int) ((y : Int) - 1) = (y' : Int) ∧ (cntF hh' (64 * (j + 1)) + 1 = cntF hh (64 * (j + 1)) ∧ y' = wd hh' j ∧ ∀ i, i < 64 * j → hh' i = f i) := by
            obtain ⟨e1, e2, e3⟩ := hI.out
            have b1 : hh (64 * j + t) = true := by have := wd_testBit hh j t; rw [← e1, h1] at this; simpa [ht] using this.symm
            have b2 : ∀ i, i < t → hh (64 * j + i) = false := fun i hi => by
              have := wd_testBit hh j i
              rw [← e1, h2 i hi] at this
              simpa [show i < 64 by omega] using this.symm
            refine ⟨put hh (64 * j + t) false, wd (put hh (64 * j + t) false) j, wd_lt _ _, ?_, cntF_put hh _ b1 _ (by omega), rfl, fun i hi => ?_⟩
            · have e4 : (y : Int) - 1 = ((y - 1 : Nat) : Int) := by omega
              rw [e4, u64_and_nat _ _ hyl (by omega), ← clear_and hh j t ht b1 b2, ← e1]
            · unfold put; rw [if_neg (by omega)]; exact e3 i hi
          obtain ⟨i1, i2, i3⟩ := hI'
          have HI := Lib.hid (show y' = wd hh' j ∧ (m + 1) + cntF hh' (64 * (j + 1)) = cntF f (64 * j) + cntF f (64 * (j + 1)) ∧ ∀ i, i < 64 * j → hh' i = f i from ⟨i2, by have := hI.out.2.1; omega, i3⟩)
          have hm2 : m + 1 ≤ 200000 := by
            have := HI.out.2.1
            have a1 := cntF_le f (64 * j)
            have a2 := cntF_le f (64 * (j + 1))
            have e : cntF f (64 * (j + 1)) ≤ 65600 := by omega
            have e' : cntF hh' (64 * (j + 1)) + 1 = cntF hh (64 * (j + 1)) := i1
            omega
          clear h1 h2 hz hlg hbits hI i2 i3
          have hy0' : 0 < y := by omega
          clear hy0
          go_wp2
          go_roundg (gk - 1)
          case measure => omega
          case rel => exact ⟨hh', y', m + 1, by omega, rfl, by go_num, hy', hm2, HI, rfl⟩
    · obtain rfl : j = wn n := by omega
      have hend := cntF_flat (f := f) (a := n) (64 * wn n) (by unfold wn; omega) (fun i h1 _ => HM.out.2.2.1 i h1)
      have HE := Lib.hid hend
      clear hend
      go_wp2
      go_ret
      exact ⟨by rw [HE.out]; rfl, rfl⟩
end Go.Proofs.Ytadbbknllakpcaa
