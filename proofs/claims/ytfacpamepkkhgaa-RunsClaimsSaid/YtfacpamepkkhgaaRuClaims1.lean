/- The walk of RunsClaims. -/
import Derived.Test.YtfacpamepkkhgaaRunT
import Derived.Test.YtfacpamepkkhgaaRunH
namespace Go.Proofs.Ytfacpamepkkhgaa
open Go.RowKit
set_option linter.unusedVariables false

theorem wf_u16 {n : Int} (h : (Lit.int .u16 n).wf = true) : 0 ≤ n ∧ n ≤ 65535 := by
  simp only [Lit.wf, Bool.and_eq_true, decide_eq_true_eq] at h; exact h
theorem Two.step0 {w0 wr w' : World} {L g cap : Nat} {l l' : List (Nat × Nat)} (h : Two w0 wr L g cap l [] [] (.slice none 0 0) (.slice none 0 0)) (hr : LandR wr L g l' w') : ∃ g' cap', Two w0 w' L g' cap' l' [] [] (.slice none 0 0) (.slice none 0 0) := h.step hr
set_option maxHeartbeats 8000000 in
theorem claims_walk (at0 n0 : Int) (a0 : Option Addr) (len cap0 : Nat) (zs : List Int) (w : World) (wf1 : (Lit.int .u16 at0).wf = true) (wf2 : (Lit.int .u16 n0).wf = true) (hrow : IsRow .u8 w a0 len cap0 zs) :
    Calls Try.prog 5 #[.int .u16 at0, .int .u16 n0, .slice a0 len cap0] w fun e w' => e = .returned (.bool true) ∧ Below w.heap.size w w' := by
  have hlen := hrow.len_le
  have hat := wf_u16 wf1
  have hnn := wf_u16 wf2
  have HAt := Lib.hid (NumAt.of_row (M := 255) hrow (fun n hn => by have := wf_u8 hn; omega))
  clear hrow wf1 wf2
  by_cases hl : 30 < len
  · go_enter Try.func5, Try.ntmps5
    go_wp2_with fail
    refine (awake_calls16 _).mono ?_
    rintro e w1 ⟨rfl, hb1⟩
    have HB1 := Lib.hid hb1
    clear hb1
    go_wp2_with fail
    refine (awake_calls16 _).mono ?_
    rintro e w2 ⟨rfl, hb2⟩
    have HB2 := Lib.hid (bel_next HB1.out hb2 (Nat.le_refl _))
    clear hb2
    go_wp2
    go_ret
    exact ⟨rfl, HB2.out⟩
  have hl2 : len ≤ 30 := by omega
  clear hl
  obtain ⟨d, rfl⟩ : ∃ d : Nat, at0 = d := ⟨at0.toNat, by omega⟩
  obtain ⟨y, rfl⟩ : ∃ y : Nat, n0 = y := ⟨n0.toNat, by omega⟩
  obtain ⟨F, hF⟩ : ∃ F : Nat, 1 + d % 4000 = F := ⟨_, rfl⟩
  have hFi : 1 + (d : Int) % 4000 = (F : Int) := by omega
  have hF2 : 1 ≤ F ∧ F ≤ 4000 := by omega
  obtain ⟨K, hK⟩ : ∃ K : Nat, 1 + y % (4096 - F) = K := ⟨_, rfl⟩
  have hKi : 1 + (y : Int) % (4096 - (F : Int)) = (K : Int) := by
    rw [← hK, show (4096 : Int) - (F : Int) = ((4096 - F : Nat) : Int) by omega]
    simp
  have hK2 : 1 ≤ K ∧ F + K ≤ 4096 := by have := Nat.mod_lt y (show 0 < 4096 - F by omega); omega
  clear hF hK
  go_enter Try.func5, Try.ntmps5
  go_wp2_with fail
  refine (awake_calls16 _).mono ?_
  rintro e w1 ⟨rfl, hb1⟩
  have HB1 := Lib.hid hb1
  clear hb1
  go_wp2_with fail
  refine (new16_calls _).mono ?_
  rintro e w2 ⟨L, g0, c0, rfl, hla, hL, hg, hb⟩
  have hb1s := HB1.out.size
  have HT2 := Lib.hid (Two.new (w0 := w) hla (by omega) (by omega) (bel_next HB1.out hb (Nat.le_refl _)))
  clear hla hL hg hb
  have HC2 := Lib.hid (canon_one (a := 1) (N := 4095) (by omega) (by omega) (by omega))
  go_wp2_with fail
  refine (claim16_calls _ L g0 c0 _ (F : Int) (K : Int) HT2.out.land HC2.out (by omega) (by omega)).mono ?_
  rintro e w3 h
  obtain ⟨rfl, m, hcm, hfm, hnm, hr⟩ := claim_ok HC2.out h (there_ok (by omega) (by omega) (by omega) (by omega)) (fun j h1 h2 => (fr_one j).2 (by omega))
  obtain ⟨g3, c3, ht3⟩ := HT2.out.step0 hr
  have HT3 := Lib.hid ht3
  have HC3 := Lib.hid hcm
  have HN3 := Lib.hid hnm
  have HF3 := Lib.hid (show ∀ j, F ≤ j → j < F + K → ¬ Fr m j from fun j h1 h2 h3 => ((hfm j).1 h3).2 ⟨h1, h2⟩)
  clear h hcm hfm hnm hr ht3
  have hkk : (F : Int) + (K : Int) - 1 = ((F + K - 1 : Nat) : Int) := by omega
  go_wp2_with fail
  refine (claim16_calls _ L g3 c3 _ ((F + K - 1 : Nat) : Int) ((1 : Nat) : Int) HT3.out.land HC3.out (by omega) (by omega)).mono ?_
  rintro e w4 h
  obtain ⟨rfl, hb⟩ := claim_no (j := F + K - 1) HC3.out h (Nat.le_refl _) (by omega) (HF3.out _ (by omega) (by omega))
  have HT4 := Lib.hid (HT3.out.below hb)
  clear h hb
  go_wp2_with fail
  refine (free16_calls _ L g3 c3 _ HT4.out.land HC3.out).mono ?_
  rintro e w5 ⟨rfl, hb⟩
  have HT5 := Lib.hid (HT4.out.below hb)
  have hfn : ((frN m : Nat) : Int) = 4095 - (K : Int) := by
    have := HN3.out
    have h2 : frN [(1, 4095)] = 4095 := by simp [frN]
    omega
  clear hb
  rw [hfn]
  go_wp2_with fail
  go_loopg [10, 11, 12, 13] len (fun q i s11 s12 s13 wr => ∃ (j : Nat) (l : List (Nat × Nat)) (g cap : Nat), q + j = len ∧ i = .int .i64 j ∧ Hid (Canon l) ∧ Hid (∀ j, F ≤ j → j < F + K → ¬ Fr l j) ∧ Hid (Two w wr L g cap l [] [] (.slice none 0 0) (.slice none 0 0)))
  case atStart => exact ⟨0, m, g3, c3, by omega, rfl, HC3, HF3, HT5⟩
  case round =>
    obtain ⟨j, l, g, cap, hq, rfl, hc, hf, ht⟩ := hrel
    by_cases hlt : j < len
    · obtain ⟨bb, oo, rfl, hbl, hcc⟩ := HAt.out.resolve_left (by omega)
      obtain ⟨z, hz, hzc⟩ := hcc j hlt
      have hx := (ht.out.bel.cell (p := ⟨bb, oo + j, none⟩) hbl).trans hzc
      obtain ⟨k, hk⟩ : ∃ k : Nat, 1 + z % 90 = k := ⟨_, rfl⟩
      have hki : 1 + (z : Int) % 90 = (k : Int) := by omega
      have hk2 : 1 ≤ k ∧ k ≤ 90 := by omega
      have HCc := Lib.hid hcc
      clear hcc hzc hk
      have hll := hc.out.len
      go_wp2_with fail
      refine (take16_calls _ L g cap _ k ht.out.land hc.out (by omega) (by omega)).mono ?_
      rintro e w6 h
      rcases take_plain hc.out hk2.1 h with ⟨rfl, hb⟩ | ⟨x, m', rfl, hx1, hx2, hfree, hcm, hfm, _, hr⟩
      · have HT6 := Lib.hid (ht.out.below hb)
        clear h hb
        go_wp2
        go_roundg (len - (j + 1))
        case measure => omega
        case rel => exact ⟨j + 1, l, g, cap, by omega, by go_num, hc, hf, HT6⟩
      · obtain ⟨g6, c6, ht6⟩ := ht.out.step0 hr
        have HT6 := Lib.hid ht6
        have HCm := Lib.hid hcm
        have HFm := Lib.hid (show ∀ j, F ≤ j → j < F + K → ¬ Fr m' j from fun j h1 h2 h3 => hf.out j h1 h2 ((hfm j).1 h3).1)
        have hap : ¬ (x < F + K ∧ F < x + k) := fun ⟨h1, h2⟩ => by
          by_cases hxF : x ≤ F
          · exact hf.out F (by omega) (by omega) (hfree F (by omega) (by omega))
          · exact hf.out x (by omega) (by omega) (hfree x (by omega) (by omega))
        clear h hr ht6 hcm hfm hfree
        by_cases h1 : x < F + K
        · have h2 : ¬ F < x + k := fun h => hap ⟨h1, h⟩
          clear hap
          go_wp2
          go_roundg (len - (j + 1))
          case measure => omega
          case rel => exact ⟨j + 1, m', g6, c6, by omega, by go_num, HCm, HFm, HT6⟩
        · clear hap
          go_wp2
          go_roundg (len - (j + 1))
          case measure => omega
          case rel => exact ⟨j + 1, m', g6, c6, by omega, by go_num, HCm, HFm, HT6⟩
    · obtain rfl : j = len := by omega
      have hll := hc.out.len
      have hTh := there_ok (x := F) (n := K) (by omega) (by omega) (by omega) (by omega)
      have HTh := Lib.hid hTh
      clear hTh
      go_wp2_with fail
      refine (give16_calls _ L g cap _ (F : Int) (K : Int) ht.out.land hc.out (by omega) (by omega) (by omega)).mono ?_
      rintro e w6 h
      obtain ⟨rfl, m', _, _, hr⟩ := give_ok hc.out h HTh.out hf.out
      obtain ⟨g6, c6, ht6⟩ := ht.out.step0 hr
      have HB6 := Lib.hid ht6.bel
      clear h hr ht6
      go_wp2_with fail
      refine (new16_calls _).mono ?_
      rintro e w7 ⟨L2, g7, c7, rfl, hla, hL, hg, hb⟩
      have hb6s := HB6.out.size
      have HT7 := Lib.hid (Two.new (w0 := w) hla (by omega) (by omega) (bel_next HB6.out hb (Nat.le_refl _)))
      clear hla hL hg hb
      go_wp2_with fail
      refine (claim16_calls _ L2 g7 c7 _ ((1 : Nat) : Int) ((4095 : Nat) : Int) HT7.out.land HC2.out (by omega) (by omega)).mono ?_
      rintro e w8 h
      obtain ⟨rfl, m', _, _, _, hr⟩ := claim_ok HC2.out h (there_ok (by omega) (by omega) (by omega) (by omega)) (fun j h1 h2 => (fr_one j).2 (by omega))
      obtain ⟨g8, c8, ht8⟩ := HT7.out.step0 hr
      have HB8 := Lib.hid ht8.bel
      clear h hr ht8
      go_wp2
      go_ret
      exact ⟨rfl, HB8.out⟩
end Go.Proofs.Ytfacpamepkkhgaa
