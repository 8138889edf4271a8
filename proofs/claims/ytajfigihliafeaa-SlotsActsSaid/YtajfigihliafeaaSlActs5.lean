/- The walk of SlotsActs, all cases. -/
import Derived.Test.YtajfigihliafeaaSlActs4
namespace Go.Proofs.Ytajfigihliafeaa
open Go.RowKit
set_option linter.unusedVariables false

set_option maxRecDepth 100000 in
set_option maxHeartbeats 4000000 in
theorem acts_out (n : Int) (a0 : Option Addr) (len0 cap0 : Nat) (a : Option Addr) (len cp : Nat) (w : World) (h0 : len0 ≤ 9223372036854775807) (h1 : len ≤ 9223372036854775807) (h : 60 < len0 ∨ 30 < len) :
    Calls Try.prog 6 #[.int .i64 n, .slice a0 len0 cap0, .slice a len cp] w fun e w' => e = .returned (.bool true) ∧ Below w.heap.size w w' := by
  by_cases h2 : 60 < len0
  · clear h
    go_enter Try.func6, Try.ntmps6
    go_wp2_with fail
    refine (awake_calls09 _).mono ?_
    rintro e w1 ⟨rfl, hb1⟩
    go_wp2_with fail
    refine (awake_calls09 _).mono ?_
    rintro e w2 ⟨rfl, hb2⟩
    go_wp2
    go_ret
    exact ⟨rfl, bel_next hb1 hb2 (Nat.le_refl _)⟩
  · have h3 : 30 < len := by omega
    clear h
    go_enter Try.func6, Try.ntmps6
    go_wp2_with fail
    refine (awake_calls09 _).mono ?_
    rintro e w1 ⟨rfl, hb1⟩
    go_wp2_with fail
    refine (awake_calls09 _).mono ?_
    rintro e w2 ⟨rfl, hb2⟩
    go_wp2
    go_ret
    exact ⟨rfl, bel_next hb1 hb2 (Nat.le_refl _)⟩
set_option maxRecDepth 100000 in
set_option maxHeartbeats 4000000 in
theorem acts_bad (n : Int) (a0 : Option Addr) (len0 cap0 : Nat) (a : Option Addr) (len cp : Nat) (w : World) (h0 : len0 ≤ 60) (h1 : len ≤ 30) (h : n < 1 ∨ 65536 < n) :
    Calls Try.prog 6 #[.int .i64 n, .slice a0 len0 cap0, .slice a len cp] w fun e w' => e = .returned (.bool true) ∧ Below w.heap.size w w' := by
  have HH := Lib.hid h
  clear h
  go_enter Try.func6, Try.ntmps6
  go_wp2_with fail
  refine (awake_calls09 _).mono ?_
  rintro e w1 ⟨rfl, hb1⟩
  have HB1 := Lib.hid hb1
  clear hb1
  go_wp2_with fail
  refine (newb_bad _ n a0 len0 cap0 HH.out).mono ?_
  rintro e w2 ⟨rfl, hb2⟩
  have HB2 := Lib.hid (bel_next HB1.out hb2 (Nat.le_refl _))
  clear hb2
  go_wp2_with fail
  refine (new9_bad _ n a0 len0 cap0 HH.out).mono ?_
  rintro e w3 ⟨rfl, rfl⟩
  go_wp2
  go_ret
  exact ⟨rfl, HB2.out⟩
theorem acts9_walk (n : Int) (a0 : Option Addr) (len0 cap0 : Nat) (zs0 : List Int) (v : Value) (qq : Option Addr × Nat × Nat) (w : World) (wn0 : (Lit.int .i64 n).wf = true) (hrow : IsRow .i64 w a0 len0 cap0 zs0) (hA : ActsAt w v qq) :
    Calls Try.prog 6 #[.int .i64 n, .slice a0 len0 cap0, v] w fun e w' => e = .returned (.bool true) ∧ Below w.heap.size w w' := by
  have hl0 := hrow.len_le
  by_cases h1 : 60 < len0 ∨ 30 < qq.2.1
  · obtain ⟨a, len, cp⟩ := qq
    obtain ⟨rfl, hl, _⟩ := hA
    exact acts_out n a0 len0 cap0 a len cp w hl0 hl h1
  · by_cases h2 : n < 1 ∨ 65536 < n
    · obtain ⟨a, len, cp⟩ := qq
      obtain ⟨rfl, hl, _⟩ := hA
      exact acts_bad n a0 len0 cap0 a len cp w (by omega) (by have h1 := h1; simp only at h1; omega) h2
    · obtain ⟨N, rfl⟩ := Int.eq_ofNat_of_zero_le (show 0 ≤ n by omega)
      exact acts_yes N a0 len0 cap0 _ v qq w (by omega) (IntsAt.of_row hrow) (by omega) hA (by omega)
end Go.Proofs.Ytajfigihliafeaa
