/- The document's board (mothballref09): Clusters, Free, Take, Run. -/
import Derived.Test.YtajfigihliafeaaR9
namespace Go.Proofs.Ytajfigihliafeaa
open Go.RowKit
set_option linter.unusedVariables false

theorem clr_out (n : Nat) (f : Nat → Bool) (i : Nat) (h : n ≤ i) : clr n f i = false := by unfold clr; rw [decide_eq_false (by omega)]; rfl
theorem clr_in (n : Nat) (f : Nat → Bool) (i : Nat) (h : i < n) : clr n f i = !f i := by unfold clr; rw [decide_eq_true h]; rfl
set_option maxHeartbeats 4000000 in
theorem clusters9_calls (w : World) (q u n : Nat) (f : Nat → Bool) (h : R9At w q u n f) :
    Calls Try.prog 22 #[.pointer (some ⟨q, 0, none⟩)] w fun e w' => ∃ v, e = .returned v ∧ w'.ownsRow w.heap.size 3 1 v (wn n) (frV n f) ∧ Below w.heap.size w w' := by
  obtain ⟨i0, hi, hz0, hz1, hz2⟩ := info_parts Try.info_int
  have HR := Lib.hid h
  have hn := h.2.1.2
  have hW : wn n ≤ 1024 := by unfold wn; omega
  clear h
  go_enter Try.func22, Try.ntmps22
  go_wp2_with fail
  go_loopg [3, 4] (wn n) (fun g v i wr => ∃ j : Nat, g + j = wn n ∧ i = .int .i64 ((64 * j : Nat) : Int) ∧ wr.ownsRow w.heap.size 3 1 v j (fnV j fun k => .int .i64 (fr n f k)) ∧ Below w.heap.size w wr)
  case atStart => exact ⟨0, by omega, by go_num, World.ownsRow_nil _ _ _ _, Below.refl _ _⟩
  case round =>
    obtain ⟨j, hj, rfl, hown, hb⟩ := hrel
    have HO := Lib.hid hown
    have HB := Lib.hid hb
    have hr := HR.out.below hb
    have HRr := Lib.hid hr
    have d0 := hr.2.2.1.cell 0
    simp only [List.getElem?_cons_zero] at d0
    have hbw := hb.size
    clear hown hb hr
    by_cases hlt : j < wn n
    · obtain ⟨p, hp⟩ : ∃ p, 64 * j = p := ⟨_, rfl⟩
      have HP := Lib.hid hp
      have hpn : p < n := by unfold wn at hlt; omega
      rw [hp]
      clear hp
      obtain ⟨wo, rfl⟩ : ∃ wo : World, wo = wr := ⟨_, rfl⟩
      go_wp2_with fail
      go_loopg [5, 6] 65 (fun g c i wr => ∃ t : Nat, g + t = 65 ∧ t ≤ 64 ∧ p + t ≤ n ∧ i = .int .i64 ((p + t : Nat) : Int) ∧ c = .int .i64 ((cntF (clr n f) (p + t) - cntF (clr n f) p : Nat) : Int) ∧ wo = wr)
      case atStart => exact ⟨0, by omega, by omega, by omega, by go_num, by rw [Nat.add_zero, Nat.sub_self]; rfl, rfl⟩
      case round =>
        obtain ⟨t, ht, ht1, ht2, rfl, rfl, rfl⟩ := hrel
        have hm := cntF_mono (h := clr n f) (A := p) (p + t) (by omega)
        have hg := cntF_gap (h := clr n f) (A := p) (p + t) (by omega)
        have hsu : cntF (clr n f) (p + t + 1) = cntF (clr n f) (p + t) + (if clr n f (p + t) then 1 else 0) := rfl
        by_cases hin : t < 64 ∧ p + t < n
        · obtain ⟨h1, h2⟩ := hin
          have dx := HRr.out.2.2.2.cell (p + t)
          rw [fnV_at _ _ _ h2] at dx
          rw [clr_in n f _ h2] at hsu
          obtain ⟨C, hC⟩ : ∃ C, cntF (clr n f) (p + t) - cntF (clr n f) p = C := ⟨_, rfl⟩
          have hC2 : cntF (clr n f) (p + t + 1) - cntF (clr n f) p = C + (if (!f (p + t)) = true then 1 else 0) := by omega
          rw [hC]
          have hCl : C ≤ 64 := by omega
          cases hf : f (p + t)
          · rw [hf] at hC2 dx
            have HC2 := Lib.hid hC2
            clear hsu hC hC2 hf hm hg
            go_wp2
            go_roundg (gk - 1)
            case measure => omega
            case rel => exact ⟨t + 1, by omega, by omega, by omega, by go_num, by have := HC2.out; rw [show p + (t + 1) = p + t + 1 from rfl, this]; simp only [Bool.not_false, if_true]; go_num, rfl⟩
          · rw [hf] at hC2 dx
            have HC2 := Lib.hid hC2
            clear hsu hC hC2 hf hm hg
            go_wp2
            go_roundg (gk - 1)
            case measure => omega
            case rel => exact ⟨t + 1, by omega, by omega, by omega, by go_num, by have := HC2.out; rw [show p + (t + 1) = p + t + 1 from rfl, this]; simp, rfl⟩
        · have hfr : cntF (clr n f) (p + t) - cntF (clr n f) p = fr n f j := by
            unfold fr
            have hp := HP.out
            rw [hp]
            by_cases h64 : t = 64
            · rw [h64, show p + 64 = 64 * (j + 1) by omega]
            · have e : p + t = n := by omega
              rw [e, ← cntF_flat (f := clr n f) (a := n) (64 * (j + 1)) (by omega) (fun i h1 _ => clr_out n f i h1)]
          rw [hfr]
          have HX := Lib.hid (show fnV j (fun k => Value.int .i64 (fr n f k)) ++ [.int .i64 (fr n f j : Nat)] = fnV (j + 1) (fun k => .int .i64 (fr n f k)) from fnV_succ j _)
          have h12 : ¬ (t < 64 ∧ p + t < n) := hin
          clear hsu hm hg hfr hin
          by_cases h64 : t < 64
          case' pos =>
            have hnn : ¬ (p + t < n) := by omega
            clear h12
            go_wp2_with (at_builtin; refine wpList_append_one rfl (.tmp 42) (.tmp 44) 34 rfl w.heap.size 3 i0 (.int .i64 0) 8 Try.underlying34 hi hz0 hz1 hz2 rfl u3 _ _ rfl HO.out rfl rfl (by omega) (by unfold maxLen; omega) (by omega) ?_; intro v1 w5 hown1 hgr1 hnew1)
          case' neg =>
            clear h12
            go_wp2_with (at_builtin; refine wpList_append_one rfl (.tmp 42) (.tmp 44) 34 rfl w.heap.size 3 i0 (.int .i64 0) 8 Try.underlying34 hi hz0 hz1 hz2 rfl u3 _ _ rfl HO.out rfl rfl (by omega) (by unfold maxLen; omega) (by omega) ?_; intro v1 w5 hown1 hgr1 hnew1)
          all_goals
            rw [HX.out] at hown1
            go_roundg (wn n - (j + 1))
            case measure => omega
            case rel => exact ⟨j + 1, by omega, by have := HP.out; go_num, hown1, own_below HB.out HO.out hbw hgr1⟩
    · obtain rfl : j = wn n := by omega
      have hnlt : ¬ ((64 * wn n : Nat) : Int) < (n : Int) := by unfold wn; omega
      go_wp2
      go_ret
      exact ⟨_, rfl, HO.out, HB.out⟩
end Go.Proofs.Ytajfigihliafeaa
