/- The walks through the document's answer for layer 14. -/
import Derived.Test.YtakcdkcikopoiaaClassW
namespace Go.Proofs.Ytakcdkcikopoiaa
open Go.RowKit
set_option linter.unusedVariables false

set_option maxHeartbeats 1000000 in
theorem rsizes_calls (w : World) : Calls Try.prog 69 #[] w fun e w' =>
    ∃ g cap, e = .returned (.slice (some ⟨g, 0, none⟩) 20 cap) ∧ w'.ownsRow w.heap.size 3 1 (.slice (some ⟨g, 0, none⟩) 20 cap) 20 (sizesT.map (.int .i64)) ∧ Below w.heap.size w w' := by
  obtain ⟨i0, hi, hz0, hz1, hz2⟩ := info_parts Try.info_int
  go_enter Try.func69, Try.ntmps69
  go_wp2_with fail
  go_loopw [1, 2] (fun v s wr => ∃ j : Nat, j ≤ 4 ∧ s = .int .i64 ((64 * 2 ^ j : Nat) : Int) ∧ wr.ownsRow w.heap.size 3 1 v (4 + 4 * j) ((sizesT.take (4 + 4 * j)).map (.int .i64)) ∧ Below w.heap.size w wr) (fun _ s _ => 1024 - (intOf s).toNat)
  case atStart =>
    exact ⟨0, by omega, rfl, World.ownsRow_lit _ _ _ (Nat.le_refl _) (by decide) rfl, (Below.refl _ _).alloc (Nat.le_refl _) _⟩
  case round =>
    obtain ⟨j, hj, rfl, hown, hbel⟩ := hrel
    have hbw := hbel.size
    rcases (show j = 0 ∨ j = 1 ∨ j = 2 ∨ j = 3 ∨ j = 4 by omega) with rfl | rfl | rfl | rfl | rfl
    · go_wp2_with (at_builtin; refine wpList_appendk rfl (.tmp 8) (.tmp 24) 93 rfl w.heap.size 3 i0 (.int .i64 0) 8 Try.underlying93 hi hz0 hz1 hz2 rfl u1 _ 4 _ rfl hown rfl rfl (by simp [Value.oneCell']) (by omega) (by omega) (by unfold maxLen; omega) (by omega) ?_; intro v' w1 hown1 hgr1 hne1)
      exact ⟨⟨1, by omega, by go_num, hown1, hbel.grown hgr1 hbw (fun j hj => (hown.lt j hj).1)⟩, by simp [intOf]⟩
    · go_wp2_with (at_builtin; refine wpList_appendk rfl (.tmp 8) (.tmp 24) 93 rfl w.heap.size 3 i0 (.int .i64 0) 8 Try.underlying93 hi hz0 hz1 hz2 rfl u1 _ 4 _ rfl hown rfl rfl (by simp [Value.oneCell']) (by omega) (by omega) (by unfold maxLen; omega) (by omega) ?_; intro v' w1 hown1 hgr1 hne1)
      exact ⟨⟨2, by omega, by go_num, hown1, hbel.grown hgr1 hbw (fun j hj => (hown.lt j hj).1)⟩, by simp [intOf]⟩
    · go_wp2_with (at_builtin; refine wpList_appendk rfl (.tmp 8) (.tmp 24) 93 rfl w.heap.size 3 i0 (.int .i64 0) 8 Try.underlying93 hi hz0 hz1 hz2 rfl u1 _ 4 _ rfl hown rfl rfl (by simp [Value.oneCell']) (by omega) (by omega) (by unfold maxLen; omega) (by omega) ?_; intro v' w1 hown1 hgr1 hne1)
      exact ⟨⟨3, by omega, by go_num, hown1, hbel.grown hgr1 hbw (fun j hj => (hown.lt j hj).1)⟩, by simp [intOf]⟩
    · go_wp2_with (at_builtin; refine wpList_appendk rfl (.tmp 8) (.tmp 24) 93 rfl w.heap.size 3 i0 (.int .i64 0) 8 Try.underlying93 hi hz0 hz1 hz2 rfl u1 _ 4 _ rfl hown rfl rfl (by simp [Value.oneCell']) (by omega) (by omega) (by unfold maxLen; omega) (by omega) ?_; intro v' w1 hown1 hgr1 hne1)
      exact ⟨⟨4, by omega, by go_num, hown1, hbel.grown hgr1 hbw (fun j hj => (hown.lt j hj).1)⟩, by simp [intOf]⟩
    · go_wp2
      go_ret
      rcases ownsRow_form hown with ⟨_, h0⟩ | ⟨g, cap, hv, _⟩
      · omega
      · subst hv
        exact ⟨g, cap, rfl, hown, hbel⟩

set_option maxHeartbeats 1000000 in
theorem rsize_calls (n : Int) (w : World) (h0 : -9223372036854775808 ≤ n) (h1 : n ≤ 9223372036854775807) :
    Calls Try.prog 53 #[.int .i64 n] w fun e w' => e = .returned (.int .i64 (sizeL n)) ∧ Below w.heap.size w w' := by
  by_cases c1 : n < 0
  · have E := Lib.hid (sizeL_neg n c1)
    go_enter Try.func53, Try.ntmps53
    go_wp2_with (go_at_call 69; refine (rsizes_calls _).mono ?_; rintro e w1 ⟨g, cap, rfl, hown, hb⟩)
    go_ret
    exact ⟨ret_eq E.out.symm, hb⟩
  · by_cases c2 : 20 ≤ n
    · have E := Lib.hid (sizeL_big n c2)
      go_enter Try.func53, Try.ntmps53
      go_wp2_with (go_at_call 69; refine (rsizes_calls _).mono ?_; rintro e w1 ⟨g, cap, rfl, hown, hb⟩)
      go_ret
      exact ⟨ret_eq E.out.symm, hb⟩
    · obtain ⟨m, rfl⟩ := Int.eq_ofNat_of_zero_le (show 0 ≤ n by omega)
      have hm : m < 20 := by omega
      clear c1 c2 h0 h1
      go_enter Try.func53, Try.ntmps53
      go_wp2_with fail
      refine (rsizes_calls _).mono ?_
      rintro e w1 ⟨g, cap, rfl, hown, hb⟩
      have hc := (ownsRow_cell hown m hm).trans (size_at m hm)
      clear hown
      go_wp2
      go_ret
      exact ⟨ret_eq rfl, hb⟩

theorem ofL_hit (s : Int) (h1 : 1 ≤ s) (j : Nat) (hj : j < 20) (h2 : s ≤ sizeL j) (h3 : j = 0 ∨ sizeL ((j : Int) - 1) < s) : ofL s = j := by
  have hf := size_fin ⟨j, hj⟩
  simp only at hf
  have := of_first ⟨s.toNat, by omega⟩ ⟨j, hj⟩
  simp only [Int.toNat_of_nonneg (show 0 ≤ s by omega)] at this
  omega
theorem size_19 : sizeL 19 = 1024 := by decide

end Go.Proofs.Ytakcdkcikopoiaa
