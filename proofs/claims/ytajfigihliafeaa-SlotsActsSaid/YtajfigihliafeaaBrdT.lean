/- The walks through package slots: Take, Run, Free, Size. -/
import Derived.Test.YtajfigihliafeaaBrd
import Derived.BigQuiet
namespace Go.Proofs.Ytajfigihliafeaa
open Go.RowKit
set_option linter.unusedVariables false

/-- The first free one of a cluster. -/
theorem first_clear {f : Nat → Bool} {A : Nat} : ∀ B, A ≤ B → f B = false → ∃ x, A ≤ x ∧ x ≤ B ∧ f x = false ∧ ∀ i, A ≤ i → i < x → f i = true := by
  intro B
  induction B using Nat.strongRecOn with
  | _ B ih =>
    intro h hf
    by_cases he : ∃ i, A ≤ i ∧ i < B ∧ f i = false
    · obtain ⟨i, h1, h2, h3⟩ := he
      obtain ⟨x, e1, e2, e3⟩ := ih i h2 h1 h3
      exact ⟨x, e1, by omega, e3⟩
    · refine ⟨B, h, Nat.le_refl _, hf, fun i h1 h2 => ?_⟩
      cases hi : f i
      · exact absurd ⟨i, h1, h2, hi⟩ he
      · rfl

/-- What Take answers. -/
def TakeR (w : World) (b r a c g n cap : Nat) (sp : List Value) (f : Nat → Bool) (e : Ending) (w' : World) : Prop :=
  (e = .returned (.tuple #[.int .i64 0, .int .i64 12]) ∧ (∀ k, k < wn n → fr n f k = 0) ∧ w = w') ∨
  ∃ s : Nat, e = .returned (.tuple #[.int .i64 s, .int .i64 0]) ∧ PickS n f s ∧ BoardAt w' b r a c g n cap sp (put f s true) ∧ Only (BrdS r a c g) w w'
theorem fillF_put (f : Nat → Bool) (A : Nat) (s : Bool) : fillF f A 1 s = put f A s := funext fun i => by
  unfold fillF put
  by_cases h : i = A
  · rw [if_pos h, if_pos (by omega)]
  · rw [if_neg h, if_neg (by omega)]

set_option maxHeartbeats 4000000 in
theorem take_calls (w : World) (b r a c g n cap : Nat) (sp : List Value) (f : Nat → Bool) (h : BoardAt w b r a c g n cap sp f) :
    Calls Try.prog 10 #[.pointer (some ⟨b, 0, none⟩)] w (TakeR w b r a c g n cap sp f) := by
  have HM := Lib.hid h
  have c0 := h.2.2.1.cell 0
  have c1 := h.2.2.1.cell 1
  simp only [List.getElem?_cons_zero, List.getElem?_cons_succ] at c0 c1
  have hn := h.2.2.2.1.2.1
  have hW : wn n ≤ 1024 := by unfold wn; omega
  clear h
  go_enter Try.func10, Try.ntmps10
  go_wp2_with fail
  go_loopg [4, 13] (wn n) (fun q v i wr => ∃ (j : Nat) (x : Int), q + j = wn n ∧ i = .int .i64 j ∧ v = .int .i64 x ∧ BestTo n f j x ∧ w = wr)
  case atStart => exact ⟨0, -1, by omega, rfl, rfl, BestTo.start n f, rfl⟩
  case round =>
    obtain ⟨j, x, hj, rfl, rfl, hb, rfl⟩ := hrel
    have HB := Lib.hid hb
    by_cases hlt : j < wn n
    · have dj := HM.out.2.2.2.2.cell j
      rw [fnVa_at _ _ _ _ hlt] at dj
      have hle := fr_le n f j
      by_cases h0 : fr n f j = 0
      · have HN := Lib.hid (hb.skip h0)
        rw [h0] at dj
        clear hb h0 hle
        go_wp2
        go_roundg (gk - 1)
        case measure => omega
        case rel => exact ⟨j + 1, x, by omega, by go_num, rfl, HN.out, rfl⟩
      · have h0' : 0 < fr n f j := by omega
        rcases hb.form with rfl | ⟨k, rfl, hk⟩
        · have HN := Lib.hid (hb.first h0')
          generalize fr n f j = y at *
          clear hb h0
          go_wp2
          go_roundg (gk - 1)
          case measure => omega
          case rel => exact ⟨j + 1, j, by omega, by go_num, rfl, HN.out, rfl⟩
        · have dk := HM.out.2.2.2.2.cell k
          rw [fnVa_at _ _ _ _ (by omega)] at dk
          have hk0 : decide ((k : Int) < 0) = false := decide_eq_false (by omega)
          by_cases hl : fr n f j < fr n f k
          · have HN := Lib.hid (hb.less h0' hl)
            generalize fr n f j = y at *
            generalize fr n f k = z at *
            clear hb h0
            go_wp2
            go_roundg (gk - 1)
            case measure => omega
            case rel => exact ⟨j + 1, j, by omega, by go_num, rfl, HN.out, rfl⟩
          · have HN := Lib.hid (hb.more (by omega : fr n f k ≤ fr n f j))
            generalize fr n f j = y at *
            generalize fr n f k = z at *
            clear hb h0
            go_wp2
            go_roundg (gk - 1)
            case measure => omega
            case rel => exact ⟨j + 1, k, by omega, by go_num, rfl, HN.out, rfl⟩
    · obtain rfl : j = wn n := by omega
      rcases hb.form with rfl | ⟨k, rfl, hk⟩
      · have hz : ∀ k, k < wn n → fr n f k = 0 := by
          rcases hb with ⟨_, h⟩ | ⟨c, h, _⟩
          · exact h
          · omega
        have HZ := Lib.hid hz
        clear hb hz
        go_wp2
        go_ret2
        exact .inl ⟨rfl, HZ.out, rfl⟩
      · obtain ⟨y, hy1, hy2, hy3, hy4⟩ := hb.clear
        obtain ⟨x, hx1, hx2, hx3, hx4⟩ := first_clear y hy1 hy4
        have HX := Lib.hid hx4
        have HP := Lib.hid (PickS.of_best hb hx1 (by omega) (by omega) hx3 hx4)
        have HXf := Lib.hid hx3
        have hk0 : decide ((k : Int) < 0) = false := decide_eq_false (by omega)
        obtain ⟨d, hd⟩ : ∃ d, x = 64 * k + d := ⟨x - 64 * k, by omega⟩
        have HD := Lib.hid hd
        have hdn : 64 * k + d < n := by omega
        clear hb hy1 hy2 hy3 hy4 hx1 hx3 hx4 hd
        go_wp2_with fail
        go_loopg [7] (d + 1) (fun q i wr => ∃ t : Nat, q + t = d + 1 ∧ t ≤ d ∧ i = .int .i64 ((64 * k + t : Nat) : Int) ∧ w = wr)
        case atStart => exact ⟨0, by omega, by omega, by go_num, rfl⟩
        case round =>
          obtain ⟨t, ht, htd, rfl, rfl⟩ := hrel
          obtain ⟨s, hs⟩ : ∃ s, 64 * k + t = s := ⟨_, rfl⟩
          have hsi : (64 : Int) * (k : Int) + (t : Int) = (s : Int) := by omega
          have HS := Lib.hid hs
          have hsn : s < n := by omega
          by_cases hlt : t < d
          · have hft := Lib.hid (HX.out s (by omega) (by have := HD.out; omega))
            rw [hs]
            clear hs
            go_wp2_with (go_at_call 26; refine (has_yes _ r a c n f _ s HM.out.2.2.2.1 hsn).mono ?_; rintro e w' ⟨rfl, rfl⟩; rw [hft.out])
            go_roundg (gk - 1)
            case measure => omega
            case rel => exact ⟨t + 1, by omega, by omega, by have := HS.out; go_num, rfl⟩
          · obtain rfl : t = d := by omega
            obtain rfl : x = s := by have := HD.out; omega
            rw [hs]
            clear hs
            go_wp2_with (first | (go_at_call 26; refine (has_yes _ r a c n f _ x HM.out.2.2.2.1 hsn).mono ?_; rintro e w' ⟨rfl, rfl⟩; rw [HXf.out]) | (go_at_call 24; refine (bturn_ok _ b r a c g n cap sp f x 1 true HM.out (by omega) (fun i h1 h2 => by rw [show i = x by omega]; exact HXf.out)).mono ?_; rintro e w2 ⟨rfl, hb2, ho2⟩; rw [fillF_put] at hb2; have HB2 := Lib.hid hb2; have HO2 := Lib.hid ho2; clear hb2 ho2))
            go_ret2
            exact .inr ⟨x, rfl, HP.out, HB2.out, HO2.out⟩

/-- What Run answers. -/
def RunR (w : World) (b r a c g n cap : Nat) (sp : List Value) (f : Nat → Bool) (k : Nat) (e : Ending) (w' : World) : Prop :=
  (e = .returned (.tuple #[.int .i64 0, .int .i64 12]) ∧ FindR f n k (-1) ∧ w = w') ∨
  ∃ p : Nat, e = .returned (.tuple #[.int .i64 p, .int .i64 0]) ∧ FindR f n k p ∧ BoardAt w' b r a c g n cap sp (fillF f p k true) ∧ Only (BrdS r a c g) w w'
theorem run_bad (w : World) (b : Nat) (k : Int) (h : k < 1 ∨ 64 < k) :
    Calls Try.prog 9 #[.pointer (some ⟨b, 0, none⟩), .int .i64 k] w fun e w' => e = .returned (.tuple #[.int .i64 0, .int .i64 2]) ∧ w = w' := by
  rcases h with h | h
  · go_enter Try.func9, Try.ntmps9
    go_wp2
    go_ret2
    exact ⟨rfl, rfl⟩
  · have h' : ¬ k < 1 := by omega
    go_enter Try.func9, Try.ntmps9
    go_wp2
    go_ret2
    exact ⟨rfl, rfl⟩
set_option maxHeartbeats 1000000 in
theorem run_calls (w : World) (b r a c g n cap : Nat) (sp : List Value) (f : Nat → Bool) (k : Nat) (h : BoardAt w b r a c g n cap sp f) (hk1 : 1 ≤ k) (hk2 : k ≤ 64) :
    Calls Try.prog 9 #[.pointer (some ⟨b, 0, none⟩), .int .i64 k] w (RunR w b r a c g n cap sp f k) := by
  have HM := Lib.hid h
  have c0 := h.2.2.1.cell 0
  simp only [List.getElem?_cons_zero] at c0
  clear h
  go_enter Try.func9, Try.ntmps9
  go_wp2_with fail
  refine (find_calls _ r a c n f k HM.out.2.2.2.1 hk1 (by omega)).mono ?_
  rintro e w' ⟨v, rfl, hv, rfl⟩
  have HV := Lib.hid hv
  rcases hv.form with rfl | ⟨p, rfl⟩
  · clear hv
    go_wp2
    go_ret2
    exact .inl ⟨rfl, HV.out, rfl⟩
  · have hh := hv.hit
    have HH := Lib.hid hh.2
    have hpk := hh.1
    clear hv hh
    have hp0 : decide ((p : Int) < 0) = false := decide_eq_false (by omega)
    go_wp2_with fail
    refine (bturn_ok _ b r a c g n cap sp f p k true HM.out hpk HH.out).mono ?_
    rintro e w2 ⟨rfl, hb2, ho2⟩
    have HB2 := Lib.hid hb2
    have HO2 := Lib.hid ho2
    clear hb2 ho2
    go_wp2
    go_ret2
    exact .inr ⟨p, rfl, HV.out, HB2.out, HO2.out⟩
theorem len_calls (w : World) (r a c n : Nat) (f g : Nat → Bool) (h : RowMid w r a c n f g) :
    Calls Try.prog 27 #[.pointer (some ⟨r, 0, none⟩)] w fun e w' => e = .returned (.int .i64 n) ∧ w = w' := by
  have c0 := h.2.2.2.1.cell 0
  simp only [List.getElem?_cons_zero] at c0
  clear h
  go_enter Try.func27, Try.ntmps27
  go_wp2
  go_ret
  exact ⟨rfl, rfl⟩
set_option maxHeartbeats 1000000 in
theorem free_calls (w : World) (b r a c g n cap : Nat) (sp : List Value) (f : Nat → Bool) (h : BoardAt w b r a c g n cap sp f) :
    Calls Try.prog 11 #[.pointer (some ⟨b, 0, none⟩)] w fun e w' => e = .returned (.int .i64 ((n - cntF f n : Nat) : Int)) ∧ ∃ q, w' = w.drewN q := by
  have HM := Lib.hid h
  have c0 := h.2.2.1.cell 0
  simp only [List.getElem?_cons_zero] at c0
  have hn := h.2.2.2.1.2.1
  have hle := cntF_le f n
  have hv : ((n - cntF f n : Nat) : Int) = (n : Int) - (cntF f n : Nat) := by omega
  have HV := Lib.hid hv
  clear h hv
  go_enter Try.func11, Try.ntmps11
  go_wp2_with fail
  go_quiet (first | (go_at_call 27; exact (len_calls _ r a c n f _ (HM.out.2.2.2.1.drewN _)).mono fun e w' ⟨he, hw⟩ => ⟨he, _, hw.symm⟩) | (go_at_call 28; exact (count_row _ r a c n f _ (HM.out.2.2.2.1.drewN _)).mono fun e w' ⟨he, hw⟩ => ⟨he, _, hw.symm⟩))
  go_wp2
  go_ret
  exact ⟨by rw [HV.out]; rfl, nq, rfl⟩
end Go.Proofs.Ytajfigihliafeaa
