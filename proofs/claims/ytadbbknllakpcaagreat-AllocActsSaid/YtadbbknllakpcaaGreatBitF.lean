/- The walk through package bits: Find. -/
import Derived.Test.YtadbbknllakpcaaGreatBitB
namespace Go.Proofs.YtadbbknllakpcaaGreat
open Go.RowKit
set_option linter.unusedVariables false

theorem fulls_calls (w : World) (r a c n : Nat) (f g : Nat → Bool) (k : Nat) (h : RowMid w r a c n f g) (hk : k < wn n) :
    Calls Tryz.prog 83 #[.pointer (some ⟨r, 0, none⟩), .int .i64 k] w fun e w' => e = .returned (.bool (g k)) ∧ w = w' := by
  obtain ⟨h1, h2, h3, h4, h5, h6⟩ := h
  have c2 := h4.cell 2
  simp only [List.getElem?_cons_zero, List.getElem?_cons_succ] at c2
  have hk2 : k / 64 < wn (wn n) := by unfold wn at hk ⊢; omega
  have cf := h6.cell (k / 64)
  rw [fnV_at _ _ _ hk2] at cf
  have hb := wd_bit g k
  have hl := wd_lt g (k / 64)
  have hW2 : wn (wn n) ≤ 65536 := by unfold wn; omega
  have hk3 : k ≤ 65536 := by unfold wn at hk; omega
  generalize wd g (k / 64) = x at *
  clear h1 h3 h4 h5 h6 hk
  obtain ⟨b, hb2⟩ : ∃ b, k % 64 = b := ⟨_, rfl⟩
  have hbl : b < 64 := by omega
  have ha : bits .and .i64 (k : Int) 63 = (b : Int) := by rw [i64_and63]; omega
  rw [hb2] at hb
  clear hb2
  cases hf : g k
  · have hx := and1_of x b hl 0 (by rw [hb, hf]; rfl)
    clear hb hf
    go_enter Tryz.func83, Tryz.ntmps83
    go_wp2
    go_ret
    exact ⟨rfl, rfl⟩
  · have hx := and1_of x b hl 1 (by rw [hb, hf]; rfl)
    clear hb hf
    go_enter Tryz.func83, Tryz.ntmps83
    go_wp2
    go_ret
    exact ⟨rfl, rfl⟩

/-- Where a run of k clear bits begins: the first such place. -/
def FindR (f : Nat → Bool) (n k : Nat) (v : Int) : Prop :=
  (v = -1 ∧ ∀ y, y + k ≤ n → ∃ x, y ≤ x ∧ x < y + k ∧ f x = true) ∨
  ∃ p : Nat, v = p ∧ p + k ≤ n ∧ (∀ x, p ≤ x → x < p + k → f x = false) ∧ ∀ y, y < p → ∃ x, y ≤ x ∧ x < y + k ∧ f x = true
theorem FindR.one {f : Nat → Bool} {n k : Nat} {v v' : Int} (h : FindR f n k v) (h' : FindR f n k v') : v = v' := by
  rcases h with ⟨rfl, h⟩ | ⟨p, rfl, h1, h2, h3⟩ <;> rcases h' with ⟨rfl, h'⟩ | ⟨q, rfl, g1, g2, g3⟩
  · rfl
  · obtain ⟨x, e1, e2, e3⟩ := h q g1
    rw [g2 x e1 e2] at e3; cases e3
  · obtain ⟨x, e1, e2, e3⟩ := h' p h1
    rw [h2 x e1 e2] at e3; cases e3
  · rcases Nat.lt_trichotomy p q with e | e | e
    · obtain ⟨x, e1, e2, e3⟩ := g3 p e
      rw [h2 x e1 e2] at e3; cases e3
    · rw [e]
    · obtain ⟨x, e1, e2, e3⟩ := h3 q e
      rw [g2 x e1 e2] at e3; cases e3
/-- What holds at the head of a round of Find: bits i - run, .., i - 1 are clear; no run begins before. -/
def FInv (f : Nat → Bool) (n k i run : Nat) : Prop :=
  run ≤ i ∧ (∀ x, i - run ≤ x → x < i → f x = false) ∧ ∀ y, y < i - run → y + k ≤ n → ∃ x, y ≤ x ∧ x < y + k ∧ f x = true
theorem FInv.start (f : Nat → Bool) (n k : Nat) : FInv f n k 0 0 := ⟨by omega, fun x h1 h2 => by omega, fun y h => by omega⟩
theorem FInv.hit {f : Nat → Bool} {n k i run : Nat} (h : FInv f n k i run) (hr : run < k) (hf : f i = true) : FInv f n k (i + 1) 0 := by
  refine ⟨by omega, fun x h1 h2 => by omega, fun y hy hk => ?_⟩
  by_cases h2 : y < i - run
  · exact h.2.2 y h2 hk
  · exact ⟨i, by omega, by have := h.1; omega, hf⟩
theorem FInv.miss {f : Nat → Bool} {n k i run : Nat} (h : FInv f n k i run) (hf : f i = false) : FInv f n k (i + 1) (run + 1) := by
  have h1 := h.1
  refine ⟨by omega, fun x h3 h2 => ?_, fun y hy hk => h.2.2 y (by omega) hk⟩
  by_cases e : x = i
  · rw [e]; exact hf
  · exact h.2.1 x (by omega) (by omega)
theorem FInv.skip {f : Nat → Bool} {n k i run : Nat} (h : FInv f n k i run) (hr : run < k) (hk1 : 1 ≤ k) (hf : ∀ x, i ≤ x → x < i + 64 → x < n → f x = true) (hin : i < n) : FInv f n k (i + 64) 0 := by
  refine ⟨by omega, fun x h1 h2 => by omega, fun y hy hk => ?_⟩
  by_cases h2 : y < i - run
  · exact h.2.2 y h2 hk
  · by_cases h3 : y ≤ i
    · exact ⟨i, h3, by have := h.1; omega, hf i (by omega) (by omega) hin⟩
    · exact ⟨y, by omega, by omega, hf y (by omega) (by omega) (by omega)⟩
theorem FInv.found {f : Nat → Bool} {n k i run : Nat} (h : FInv f n k i run) (hr : run = k) (hin : i ≤ n) : FindR f n k ((i - k : Nat) : Int) := by
  subst hr
  have h1 := h.1
  refine .inr ⟨i - run, rfl, by omega, fun x h2 h3 => h.2.1 x h2 (by omega), fun y hy => h.2.2 y hy (by omega)⟩
theorem FInv.none {f : Nat → Bool} {n k i run : Nat} (h : FInv f n k i run) (hr : run < k) (hin : n ≤ i) : FindR f n k (-1) :=
  .inl ⟨rfl, fun y hy => h.2.2 y (by have := h.1; omega) hy⟩

set_option maxHeartbeats 2000000 in
theorem find_calls (w : World) (r a c n : Nat) (f : Nat → Bool) (k : Nat) (h : RowAt w r a c n f) (hk : 1 ≤ k) (hk2 : k ≤ 1000000) :
    Calls Tryz.prog 61 #[.pointer (some ⟨r, 0, none⟩), .int .i64 k] w fun e w' => ∃ v, e = .returned (.int .i64 v) ∧ FindR f n k v ∧ w = w' := by
  have hn := h.2.1
  have c0 := h.2.2.2.1.cell 0
  simp only [List.getElem?_cons_zero] at c0
  have HM := Lib.hid h
  clear h
  go_enter Tryz.func61, Tryz.ntmps61
  go_wp2_with fail
  go_loopg [5, 6] (n + 64) (fun q v i wr => ∃ (j run : Nat), q + j = n + 64 ∧ run < k ∧ i = .int .i64 j ∧ v = .int .i64 run ∧ Hid (FInv f n k j run) ∧ w = wr)
  case atStart => exact ⟨0, 0, by omega, by omega, rfl, rfl, Lib.hid (FInv.start f n k), rfl⟩
  case round =>
    obtain ⟨j, run, hj, hrk, rfl, rfl, hI, rfl⟩ := hrel
    by_cases hlt : j < n
    · have hkw : j / 64 < wn n := by unfold wn; omega
      obtain ⟨b, hb2⟩ : ∃ b, j % 64 = b := ⟨_, rfl⟩
      have ha : bits .and .i64 (j : Int) 63 = (b : Int) := by rw [i64_and63]; omega
      obtain ⟨m, hm⟩ : ∃ m, j / 64 = m := ⟨_, rfl⟩
      have hmi : (j : Int) / 64 = (m : Int) := by omega
      rw [hm] at hkw
      have HKW := Lib.hid hkw
      have HB2 := Lib.hid hb2
      have HM2 := Lib.hid hm
      have hbl : b < 64 := by omega
      clear hb2 hm hkw
      by_cases hful : b = 0 ∧ fullB n f m = true
      · obtain ⟨rfl, hfull⟩ := hful
        have hskip := hI.out.skip hrk hk (fun x h1 h2 h3 => by
          have := ((fullB_iff n f m HM.out.2.2.1).1 hfull).2 (x - 64 * m) (by have e1 := HB2.out; have e2 := HM2.out; omega) (by have e1 := HB2.out; have e2 := HM2.out; omega)
          rwa [show 64 * m + (x - 64 * m) = x by have e1 := HB2.out; have e2 := HM2.out; omega] at this) hlt
        have HS := Lib.hid hskip
        have HF := Lib.hid hfull
        rw [show ((0 : Nat) : Int) = 0 from rfl] at ha
        clear hskip hfull hI
        go_wp2_with (go_at_call 83; refine (fulls_calls _ r a c n f _ m HM.out HKW.out).mono ?_; rintro e w' ⟨rfl, rfl⟩; rw [HF.out])
        go_roundg (n + 64 - (j + 64))
        case measure => omega
        case rel => exact ⟨j + 64, 0, by omega, by omega, by go_num, rfl, HS, rfl⟩
      · by_cases hb0 : b = 0
        · subst hb0
          have hfull : fullB n f m = false := by cases e : fullB n f m; rfl; exact absurd ⟨rfl, e⟩ hful
          have HF := Lib.hid hfull
          rw [show ((0 : Nat) : Int) = 0 from rfl] at ha
          clear hful hfull
          cases hfj : f j
          · have HFJ := Lib.hid hfj
            have hms := Lib.hid (hI.out.miss hfj)
            by_cases hr : run + 1 = k
            · have hfd := Lib.hid (hms.out.found hr (by omega))
              have hr' : ((run : Int) + 1 == (k : Int)) = true := by simp; omega
              have hjk : ((j + 1 - k : Nat) : Int) = (j : Int) - (k : Int) + 1 := by have := hms.out.1; omega
              have HJK := Lib.hid hjk
              clear hfj hI hms hjk
              go_wp2_with (first | (go_at_call 83; refine (fulls_calls _ r a c n f _ m HM.out HKW.out).mono ?_; rintro e w' ⟨rfl, rfl⟩; rw [HF.out]) | (go_at_call 84; refine (has_yes _ r a c n f _ j HM.out hlt).mono ?_; rintro e w' ⟨rfl, rfl⟩; rw [HFJ.out]))
              go_ret
              exact ⟨_, rfl, by have := hfd.out; rw [HJK.out] at this; exact this, rfl⟩
            · have hr' : ((run : Int) + 1 == (k : Int)) = false := by simp; omega
              clear hfj hI
              go_wp2_with (first | (go_at_call 83; refine (fulls_calls _ r a c n f _ m HM.out HKW.out).mono ?_; rintro e w' ⟨rfl, rfl⟩; rw [HF.out]) | (go_at_call 84; refine (has_yes _ r a c n f _ j HM.out hlt).mono ?_; rintro e w' ⟨rfl, rfl⟩; rw [HFJ.out]))
              go_roundg (gk - 1)
              case measure => omega
              case rel => exact ⟨j + 1, run + 1, by omega, by omega, by go_num, by go_num, hms, rfl⟩
          · have HFJ := Lib.hid hfj
            have hht := Lib.hid (hI.out.hit hrk hfj)
            clear hfj hI
            go_wp2_with (first | (go_at_call 83; refine (fulls_calls _ r a c n f _ m HM.out HKW.out).mono ?_; rintro e w' ⟨rfl, rfl⟩; rw [HF.out]) | (go_at_call 84; refine (has_yes _ r a c n f _ j HM.out hlt).mono ?_; rintro e w' ⟨rfl, rfl⟩; rw [HFJ.out]))
            go_roundg (gk - 1)
            case measure => omega
            case rel => exact ⟨j + 1, 0, by omega, by omega, by go_num, rfl, hht, rfl⟩
        · have hb0' : ((b : Int) == 0) = false := by simp; omega
          have HF : Hid (fullB n f m = fullB n f m) := Lib.hid rfl
          clear hful hb0
          cases hfj : f j
          · have HFJ := Lib.hid hfj
            have hms := Lib.hid (hI.out.miss hfj)
            by_cases hr : run + 1 = k
            · have hfd := Lib.hid (hms.out.found hr (by omega))
              have hr' : ((run : Int) + 1 == (k : Int)) = true := by simp; omega
              have hjk : ((j + 1 - k : Nat) : Int) = (j : Int) - (k : Int) + 1 := by have := hms.out.1; omega
              have HJK := Lib.hid hjk
              clear hfj hI hms hjk
              go_wp2_with (first | (go_at_call 83; refine (fulls_calls _ r a c n f _ m HM.out HKW.out).mono ?_; rintro e w' ⟨rfl, rfl⟩; rw [HF.out]) | (go_at_call 84; refine (has_yes _ r a c n f _ j HM.out hlt).mono ?_; rintro e w' ⟨rfl, rfl⟩; rw [HFJ.out]))
              go_ret
              exact ⟨_, rfl, by have := hfd.out; rw [HJK.out] at this; exact this, rfl⟩
            · have hr' : ((run : Int) + 1 == (k : Int)) = false := by simp; omega
              clear hfj hI
              go_wp2_with (first | (go_at_call 83; refine (fulls_calls _ r a c n f _ m HM.out HKW.out).mono ?_; rintro e w' ⟨rfl, rfl⟩; rw [HF.out]) | (go_at_call 84; refine (has_yes _ r a c n f _ j HM.out hlt).mono ?_; rintro e w' ⟨rfl, rfl⟩; rw [HFJ.out]))
              go_roundg (gk - 1)
              case measure => omega
              case rel => exact ⟨j + 1, run + 1, by omega, by omega, by go_num, by go_num, hms, rfl⟩
          · have HFJ := Lib.hid hfj
            have hht := Lib.hid (hI.out.hit hrk hfj)
            clear hfj hI
            go_wp2_with (first | (go_at_call 83; refine (fulls_calls _ r a c n f _ m HM.out HKW.out).mono ?_; rintro e w' ⟨rfl, rfl⟩; rw [HF.out]) | (go_at_call 84; refine (has_yes _ r a c n f _ j HM.out hlt).mono ?_; rintro e w' ⟨rfl, rfl⟩; rw [HFJ.out]))
            go_roundg (gk - 1)
            case measure => omega
            case rel => exact ⟨j + 1, 0, by omega, by omega, by go_num, rfl, hht, rfl⟩
    · have hres := hI.out.none hrk (by omega)
      have HRes := Lib.hid hres
      clear hres
      go_wp2
      go_ret
      exact ⟨_, rfl, HRes.out, rfl⟩
end Go.Proofs.YtadbbknllakpcaaGreat
