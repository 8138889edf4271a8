/- The document's board (mothballref09): Free, Take, Run. -/
import Derived.Test.YtajfigihliafeaaR9T
namespace Go.Proofs.Ytajfigihliafeaa
open Go.RowKit
set_option linter.unusedVariables false

theorem free9_calls (w : World) (q u n : Nat) (f : Nat → Bool) (h : R9At w q u n f) :
    Calls Try.prog 21 #[.pointer (some ⟨q, 0, none⟩)] w fun e w' => e = .returned (.int .i64 ((n - cntF f n : Nat) : Int)) ∧ w = w' := by
  have HR := Lib.hid h
  have hn := h.2.1.2
  have d0 := h.2.2.1.cell 0
  simp only [List.getElem?_cons_zero] at d0
  have hend : cntF (clr n f) n = n - cntF f n := by have := cntF_clr n f n (Nat.le_refl _); omega
  have HE := Lib.hid hend
  clear h hend
  go_enter Try.func21, Try.ntmps21
  go_wp2_with fail
  go_loopg [3, 4] n (fun g c i wr => ∃ j : Nat, g + j = n ∧ i = .int .i64 j ∧ c = .int .i64 (cntF (clr n f) j : Nat) ∧ w = wr)
  case atStart => exact ⟨0, by omega, rfl, rfl, rfl⟩
  case round =>
    obtain ⟨j, hj, rfl, rfl, rfl⟩ := hrel
    have hle := cntF_le (clr n f) j
    by_cases hlt : j < n
    · have dx := HR.out.2.2.2.cell j
      rw [fnV_at _ _ _ hlt] at dx
      have hsu : cntF (clr n f) (j + 1) = cntF (clr n f) j + (if clr n f j then 1 else 0) := rfl
      rw [clr_in n f j hlt] at hsu
      cases hf : f j
      · rw [hf] at hsu dx
        have HSu := Lib.hid hsu
        clear hsu hf
        go_wp2
        go_roundg (gk - 1)
        case measure => omega
        case rel => exact ⟨j + 1, by omega, by go_num, by rw [HSu.out]; simp only [Bool.not_false, if_true]; go_num, rfl⟩
      · rw [hf] at hsu dx
        have HSu := Lib.hid hsu
        clear hsu hf
        go_wp2
        go_roundg (gk - 1)
        case measure => omega
        case rel => exact ⟨j + 1, by omega, by go_num, by rw [HSu.out]; simp, rfl⟩
    · obtain rfl : j = n := by omega
      go_wp2
      go_ret
      exact ⟨by rw [HE.out]; rfl, rfl⟩

/-- What the document's Take answers. -/
def Take9R (w : World) (q u n : Nat) (f : Nat → Bool) (e : Ending) (w' : World) : Prop :=
  (e = .returned (.tuple #[.int .i64 0, .int .i64 12]) ∧ (∀ k, k < wn n → fr n f k = 0) ∧ Below w.heap.size w w') ∨
  ∃ s : Nat, e = .returned (.tuple #[.int .i64 s, .int .i64 0]) ∧ PickS n f s ∧ R9At w' q u n (put f s true) ∧ Only (· = u) w w'
theorem pick_of {n : Nat} {f : Nat → Bool} {e c s : Nat} (h1 : ∀ k, k < wn n → 0 < fr n f k → e ≤ fr n f k) (h2 : ∀ k, k < c → fr n f k ≠ e) (h3 : fr n f c = e) (h4 : 64 * c ≤ s) (h5 : s < 64 * (c + 1)) (hs : s < n) (hf : f s = false) (hb : ∀ i, 64 * c ≤ i → i < s → f i = true) : PickS n f s := by
  have e' : s / 64 = c := by omega
  unfold PickS
  rw [e']
  refine ⟨hs, hf, hb, fun k hk hp => ?_⟩
  have := h1 k hk hp
  rw [h3]
  exact ⟨this, fun hkc => by have := h2 k hkc; omega⟩

set_option maxHeartbeats 4000000 in
theorem take9_calls (w : World) (q u n : Nat) (f : Nat → Bool) (h : R9At w q u n f) :
    Calls Try.prog 17 #[.pointer (some ⟨q, 0, none⟩)] w (Take9R w q u n f) := by
  have HR := Lib.hid h
  have hn := h.2.1.2
  have hW : wn n ≤ 1024 := by unfold wn; omega
  clear h
  go_enter Try.func17, Try.ntmps17
  go_wp2_with fail
  refine (clusters9_calls _ q u n f HR.out).mono ?_
  rintro e w1 ⟨v, rfl, hown, hb⟩
  obtain ⟨A1, c1, rfl⟩ := ownsRow_slice hown
  have HL := Lib.hid (RdAt.of_own hown)
  have HB := Lib.hid hb
  have hr := HR.out.below hb
  have HR1 := Lib.hid hr
  have d0 := hr.2.2.1.cell 0
  simp only [List.getElem?_cons_zero] at d0
  clear hown hb hr
  go_wp2_with fail
  go_loopg [5] 64 (fun g fe wr => ∃ e : Nat, g + e = 65 ∧ 1 ≤ e ∧ fe = .int .i64 e ∧ Hid (∀ k, k < wn n → 0 < fr n f k → e ≤ fr n f k) ∧ w1 = wr)
  case atStart => exact ⟨1, by omega, by omega, rfl, Lib.hid (fun k _ h => h), rfl⟩
  case round =>
    obtain ⟨e, he, he1, rfl, hE, rfl⟩ := hrel
    by_cases hle : e ≤ 64
    · go_wp2_with fail
      go_loopg [6] (wn n) (fun g ci wr => ∃ c : Nat, g + c = wn n ∧ ci = .int .i64 c ∧ Hid (∀ k, k < c → fr n f k ≠ e) ∧ w1 = wr)
      case atStart => exact ⟨0, by omega, rfl, Lib.hid (fun k h => by omega), rfl⟩
      case round =>
        obtain ⟨c, hc, rfl, hC, rfl⟩ := hrel
        by_cases hlt : c < wn n
        · obtain ⟨bb, oo, rfl, hbb, hcc⟩ := (HL.out).resolve_left (by omega)
          have dt := hcc c _ (frV_at n f c hlt)
          by_cases heq : fr n f c = e
          · have hpos : 0 < fr n f c := by omega
            obtain ⟨y, hy1, hy2, hy3, hy4⟩ := (fr_pos n f c).1 hpos
            obtain ⟨x, hx1, hx2, hx3, hx4⟩ := first_clear y hy1 hy4
            have HX := Lib.hid hx4
            have HXf := Lib.hid hx3
            have HP := Lib.hid (pick_of hE.out hC.out heq hx1 (by omega) (by omega) hx3 hx4)
            obtain ⟨d, hd⟩ : ∃ d, x = 64 * c + d := ⟨x - 64 * c, by omega⟩
            have HD := Lib.hid hd
            have hdn : 64 * c + d < n := by omega
            rw [heq] at dt
            clear hcc heq hpos hy1 hy2 hy3 hy4 hx1 hx3 hx4 hd
            go_wp2_with fail
            go_loopg [7] (d + 1) (fun g i wr => ∃ t : Nat, g + t = d + 1 ∧ t ≤ d ∧ i = .int .i64 ((64 * c + t : Nat) : Int) ∧ w1 = wr)
            case atStart => exact ⟨0, by omega, by omega, by go_num, rfl⟩
            case round =>
              obtain ⟨t, ht, htd, rfl, rfl⟩ := hrel
              obtain ⟨s, hs⟩ : ∃ s, 64 * c + t = s := ⟨_, rfl⟩
              have HS := Lib.hid hs
              have hsn : s < n := by omega
              have dx := HR1.out.2.2.2.cell s
              rw [fnV_at _ _ _ hsn] at dx
              have fx := HR1.out.2.2.2.free s
              by_cases hlt2 : t < d
              · have hft := HX.out s (by omega) (by have := HD.out; omega)
                rw [hft] at dx
                rw [hs]
                clear hs hft
                go_wp2
                go_roundg (gk - 1)
                case measure => omega
                case rel => exact ⟨t + 1, by omega, by omega, by have := HS.out; go_num, rfl⟩
              · obtain rfl : t = d := by omega
                obtain rfl : x = s := by have := HD.out; omega
                rw [HXf.out] at dx
                have HN := Lib.hid (HR1.out.turned x true)
                rw [hs]
                clear hs
                go_wp2
                go_ret2
                exact .inr ⟨x, rfl, HP.out, HN.out, only_u (Only.of_below HB.out) rfl⟩
          · have hneq : ((fr n f c : Nat) : Int) ≠ (e : Int) := by omega
            have hne : (((fr n f c : Nat) : Int) != (e : Int)) = true := by rw [bne_iff_ne]; exact hneq
            have HN := Lib.hid (show ∀ k, k < c + 1 → fr n f k ≠ e from fun k hk => by
              by_cases h : k = c
              · rw [h]; exact heq
              · exact hC.out k (by omega))
            clear hcc heq hneq
            go_wp2
            go_roundg (wn n - (c + 1))
            case measure => omega
            case rel => exact ⟨c + 1, by omega, by go_num, HN, rfl⟩
        · obtain rfl : c = wn n := by omega
          have HN := Lib.hid (show ∀ k, k < wn n → 0 < fr n f k → e + 1 ≤ fr n f k from fun k hk hp => by
            have h1 := hE.out k hk hp
            have h2 := hC.out k hk
            omega)
          go_wp2
          go_roundg (64 - e)
          case measure => omega
          case rel => exact ⟨e + 1, by omega, by omega, by go_num, HN, rfl⟩
    · have hz : ∀ k, k < wn n → fr n f k = 0 := fun k hk => by
        have h1 := hE.out k hk
        have h2 := fr_le n f k
        rcases Nat.eq_zero_or_pos (fr n f k) with h | h
        · exact h
        · have := h1 h; omega
      have HZ := Lib.hid hz
      clear hz
      go_wp2
      go_ret2
      exact .inl ⟨rfl, HZ.out, HB.out⟩
end Go.Proofs.Ytajfigihliafeaa
