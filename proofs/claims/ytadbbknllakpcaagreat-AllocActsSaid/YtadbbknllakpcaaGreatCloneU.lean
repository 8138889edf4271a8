/- The contract of slices.Clone at [uint64]: a row of the call's own with the same cells. -/
import Derived.Test.YtadbbknllakpcaaGreatBase
import Derived.Test.YtadbbknllakpcaaGreatApp
namespace Go.Proofs.YtadbbknllakpcaaGreat
open Go.RowKit
set_option linter.unusedVariables false

theorem Tryz.info_clone_u64 : (Tryz.prog.info? 64).map (fun i => (i.zero, i.size, i.bytes)) = some (some (.int .u64 0), 1, 8) := by kernel_rfl
set_option maxHeartbeats 400000 in
theorem clone_u64 (w : World) (A : Option Addr) (n cap : Nat) (vs : List Value) (hl : vs.length = n * 1) (hr : RdAt w A n vs) (h1 : ∀ u ∈ vs, u.oneCell' = true) (hn : n * 8 ≤ 140737488355328) :
    Calls Tryz.prog 20 #[.slice A n cap] w fun e w' => ∃ v, e = .returned v ∧ w'.ownsRow w.heap.size 64 1 v n vs ∧ (v = .slice none 0 0 ↔ A = none) ∧ Below w.heap.size w w' := by
  obtain ⟨i0, hi, hz0, hz1, hz2⟩ := info_parts Tryz.info_clone_u64
  have heq := fun (w : World) => Lib.run_eql_slice_nil (P := Tryz.prog) w 25 64 A n cap 0 0 Tryz.underlying25
  cases A with
  | none =>
    have hn0 : n = 0 := by
      rcases hr with h | ⟨b, o, h, _⟩
      · exact h
      · cases h
    subst hn0
    obtain rfl : vs = [] := List.eq_nil_of_length_eq_zero (by simpa using hl)
    clear hr h1 hl hn
    simp only [Option.isNone_none] at heq
    go_enter Tryz.func20, Tryz.ntmps20
    go_wp2
    go_ret
    exact ⟨_, rfl, World.ownsRow_nil _ _ _ _, by simp, Below.refl _ _⟩
  | some ad =>
    simp only [Option.isNone_some] at heq
    have HR := Lib.hid (hr.alloc (.cells #[] 64))
    have HL := Lib.hid hl
    have H1 := Lib.hid h1
    have hown := Lib.hid (World.ownsRow_made (base := w.heap.size) (e := 64) (size := 1) w #[] 0 (Nat.le_refl _) (by simp) (by simp))
    clear hr hl h1
    go_enter Tryz.func20, Tryz.ntmps20
    go_wp2_with (at_builtin; refine wpList_append_rd rfl (.tmp 5) (.tmp 6) 25 rfl w.heap.size 64 i0 _ 1 8 Tryz.underlying25 hi hz0 hz1 hz2 rfl (by decide) (.slice (some ⟨w.heap.size, 0, none⟩) 0 0) 0 [] rfl hown.out (some ad) n cap rfl vs HL.out HR.out H1.out (by omega) (by unfold maxLen; omega) (by simp) ?_; intro v' w1 hown1 hgr1 hnew1 hnil1)
    go_ret
    refine ⟨_, rfl, ?_, ?_, ((Below.refl _ _).alloc (Nat.le_refl _) _).grown hgr1 (by simp) (fun k hk => ?_)⟩
    · simpa using hown1
    · constructor
      · intro h
        have := (hnil1.1 h).1
        cases this
      · intro h
        cases h
    · have e : (Value.slice (some (⟨w.heap.size, 0, none⟩ : Addr)) 0 0).ownBlock = some w.heap.size := by simp [Value.ownBlock]
      rw [e] at hk
      cases hk
      exact Nat.le_refl _
end Go.Proofs.YtadbbknllakpcaaGreat
