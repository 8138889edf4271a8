/- The walk of BitsLoads: the cases. -/
import Derived.Test.YtddajgdjmmnnpaaBitX
namespace Go.Proofs.Ytddajgdjmmnnpaa
open Go.RowKit
set_option linter.unusedVariables false

set_option maxRecDepth 100000 in
set_option maxHeartbeats 4000000 in
theorem loads_out (n : Int) (a0 : Option Addr) (len cap : Nat) (w : World) (hl : len ≤ 9223372036854775807) (h : 20 < len ∨ (2000 < n ∧ n ≤ 65536)) :
    Calls Try.prog 5 #[.int .i64 n, .slice a0 len cap] w fun e w' => e = .returned (.bool true) ∧ Below w.heap.size w w' := by
  by_cases h2 : 20 < len
  · clear h
    go_enter Try.func5, Try.ntmps5
    go_wp2_with fail
    refine (awake_calls08 _).mono ?_
    rintro e w1 ⟨rfl, hb1⟩
    go_wp2_with fail
    refine (awake_calls08 _).mono ?_
    rintro e w2 ⟨rfl, hb2⟩
    go_wp2
    go_ret
    exact ⟨rfl, bel_next hb1 hb2 (Nat.le_refl _)⟩
  · obtain ⟨h3, h4⟩ : 2000 < n ∧ n ≤ 65536 := by omega
    clear h
    go_enter Try.func5, Try.ntmps5
    go_wp2_with fail
    refine (awake_calls08 _).mono ?_
    rintro e w1 ⟨rfl, hb1⟩
    go_wp2_with fail
    refine (awake_calls08 _).mono ?_
    rintro e w2 ⟨rfl, hb2⟩
    go_wp2
    go_ret
    exact ⟨rfl, bel_next hb1 hb2 (Nat.le_refl _)⟩

theorem loads_in {w w1 w2 : World} {v' : Value} {len : Nat} {xs : List Value} {e : TypeId} (hown : w2.ownsRow w1.heap.size e 1 v' (0 + len) ([] ++ xs)) (hg : (w1.alloc (.cells #[] e)).grownBy w2 (Value.slice (some ⟨w1.heap.size, 0, none⟩) 0 0).ownBlock) (hb : Below w.heap.size w w1) :
    ∃ A1 c1, v' = .slice A1 len c1 ∧ RdAt w2 A1 len xs ∧ Below w.heap.size w w2 := by
  rw [Nat.zero_add, List.nil_append] at hown
  obtain ⟨A1, c1, rfl⟩ := ownsRow_slice hown
  refine ⟨A1, c1, rfl, RdAt.of_own hown, (hb.alloc hb.size _).grown hg (Nat.le_trans hb.size (by simp)) (fun k hk => ?_)⟩
  have e : (Value.slice (some (⟨w1.heap.size, 0, none⟩ : Addr)) 0 0).ownBlock = some w1.heap.size := by simp [Value.ownBlock]
  rw [e] at hk
  cases hk
  exact hb.size

set_option maxRecDepth 100000 in
set_option maxHeartbeats 4000000 in
theorem loads_bad (n : Int) (a0 : Option Addr) (len cap : Nat) (f : Nat → Bool) (w : World) (hr : RdAt w a0 len (wdV len f)) (hl : len ≤ 20) (h : n < 0 ∨ 65536 < n) :
    Calls Try.prog 5 #[.int .i64 n, .slice a0 len cap] w fun e w' => e = .returned (.bool true) ∧ Below w.heap.size w w' := by
  obtain ⟨i0, hi, hz0, hz1, hz2⟩ := info_parts Try.info_clone_u64
  have HR := Lib.hid hr
  have HH := Lib.hid h
  clear hr
  rcases h with h | h
  all_goals
    go_enter Try.func5, Try.ntmps5
    go_wp2_with fail
    refine (awake_calls08 _).mono ?_
    rintro e w1 ⟨rfl, hb1⟩
    have hown := Lib.hid (World.ownsRow_made (base := w1.heap.size) (e := 45) (size := 1) w1 #[] 0 (Nat.le_refl _) (by simp) (by simp))
    have HR1 := Lib.hid ((HR.out.below hb1).alloc (.cells #[] 45))
    have HB1 := Lib.hid hb1
    clear hb1
    go_wp2_with (at_builtin; refine wpList_append_rd rfl (.tmp 27) (.tmp 28) 43 rfl w1.heap.size 45 i0 _ 1 8 Try.underlying43 hi hz0 hz1 hz2 rfl (by decide) (.slice (some ⟨w1.heap.size, 0, none⟩) 0 0) 0 [] rfl hown.out a0 len cap rfl (wdV len f) (by rw [wdV_length, Nat.mul_one]) HR1.out (wdV_one _ _) (by omega) (by unfold maxLen; omega) (by simp) ?_; intro v' w2 hown2 hgr2 hnew2 hnil2)
    obtain ⟨A1, c1, rfl, hA1, hB2⟩ := loads_in hown2 hgr2 HB1.out
    have HA1 := Lib.hid hA1
    have HB2 := Lib.hid hB2
    have HR2 := Lib.hid (HR.out.below hB2)
    clear hown2 hgr2 hnew2 hnil2 hA1 hB2
    go_wp2_with fail
    refine (load_bad _ n A1 len c1 HH.out).mono ?_
    rintro e w3 ⟨rfl, rfl⟩
    go_wp2
    go_ret
    exact ⟨rfl, HB2.out⟩

set_option maxRecDepth 100000 in
set_option maxHeartbeats 4000000 in
theorem loads_len (n : Nat) (a0 : Option Addr) (len cap : Nat) (f : Nat → Bool) (w : World) (hr : RdAt w a0 len (wdV len f)) (hl : len ≤ 20) (hn : n ≤ 2000) (h : len ≠ wn n) :
    Calls Try.prog 5 #[.int .i64 n, .slice a0 len cap] w fun e w' => e = .returned (.bool true) ∧ Below w.heap.size w w' := by
  obtain ⟨i0, hi, hz0, hz1, hz2⟩ := info_parts Try.info_clone_u64
  have HR := Lib.hid hr
  have HH := Lib.hid h
  obtain ⟨W, hW⟩ : ∃ W, wn n = W := ⟨_, rfl⟩
  have hq : ((n : Int) + 63) / 64 = (W : Int) := by unfold wn at hW; omega
  have hne : ((len : Int) == (W : Int)) = false := by rw [beq_eq_false_iff_ne]; rw [hW] at h; omega
  clear hr hW h
  all_goals
    go_enter Try.func5, Try.ntmps5
    go_wp2_with fail
    refine (awake_calls08 _).mono ?_
    rintro e w1 ⟨rfl, hb1⟩
    have hown := Lib.hid (World.ownsRow_made (base := w1.heap.size) (e := 45) (size := 1) w1 #[] 0 (Nat.le_refl _) (by simp) (by simp))
    have HR1 := Lib.hid ((HR.out.below hb1).alloc (.cells #[] 45))
    have HB1 := Lib.hid hb1
    clear hb1
    go_wp2_with (at_builtin; refine wpList_append_rd rfl (.tmp 27) (.tmp 28) 43 rfl w1.heap.size 45 i0 _ 1 8 Try.underlying43 hi hz0 hz1 hz2 rfl (by decide) (.slice (some ⟨w1.heap.size, 0, none⟩) 0 0) 0 [] rfl hown.out a0 len cap rfl (wdV len f) (by rw [wdV_length, Nat.mul_one]) HR1.out (wdV_one _ _) (by omega) (by unfold maxLen; omega) (by simp) ?_; intro v' w2 hown2 hgr2 hnew2 hnil2)
    obtain ⟨A1, c1, rfl, hA1, hB2⟩ := loads_in hown2 hgr2 HB1.out
    have HA1 := Lib.hid hA1
    have HB2 := Lib.hid hB2
    have HR2 := Lib.hid (HR.out.below hB2)
    clear hown2 hgr2 hnew2 hnil2 hA1 hB2
    go_wp2_with fail
    refine (load_len _ n A1 len c1 (by omega) HH.out).mono ?_
    rintro e w3 ⟨rfl, hb3⟩
    have HB3 := Lib.hid (bel_next HB2.out hb3 (Nat.le_refl _))
    clear hb3
    go_wp2
    go_ret
    exact ⟨rfl, HB3.out⟩

set_option maxRecDepth 100000 in
set_option maxHeartbeats 4000000 in
theorem loads_yes (n : Nat) (a0 : Option Addr) (len cap : Nat) (f : Nat → Bool) (w : World) (hr : RdAt w a0 len (wdV len f)) (hl : len ≤ 20) (hn : n ≤ 2000) (h : len = wn n) (hf : ∀ i, 64 * len ≤ i → f i = false) :
    Calls Try.prog 5 #[.int .i64 n, .slice a0 len cap] w fun e w' => e = .returned (.bool true) ∧ Below w.heap.size w w' := by
  obtain ⟨i0, hi, hz0, hz1, hz2⟩ := info_parts Try.info_clone_u64
  have HR := Lib.hid hr
  have HH := Lib.hid h
  have HF := Lib.hid hf
  have hq : ((n : Int) + 63) / 64 = (len : Int) := by unfold wn at h; omega
  have hne : ((len : Int) == (len : Int)) = true := by simp
  obtain ⟨s, hs⟩ : ∃ s, n % 64 = s := ⟨_, rfl⟩
  have hsi : (n : Int) % 64 = (s : Int) := by omega
  have HS := Lib.hid hs
  have hs64 : s < 64 := by omega
  clear hr hs h hf
  all_goals
    go_enter Try.func5, Try.ntmps5
    go_wp2_with fail
    refine (awake_calls08 _).mono ?_
    rintro e w1 ⟨rfl, hb1⟩
    have hown := Lib.hid (World.ownsRow_made (base := w1.heap.size) (e := 45) (size := 1) w1 #[] 0 (Nat.le_refl _) (by simp) (by simp))
    have HR1 := Lib.hid ((HR.out.below hb1).alloc (.cells #[] 45))
    have HB1 := Lib.hid hb1
    clear hb1
    go_wp2_with (at_builtin; refine wpList_append_rd rfl (.tmp 27) (.tmp 28) 43 rfl w1.heap.size 45 i0 _ 1 8 Try.underlying43 hi hz0 hz1 hz2 rfl (by decide) (.slice (some ⟨w1.heap.size, 0, none⟩) 0 0) 0 [] rfl hown.out a0 len cap rfl (wdV len f) (by rw [wdV_length, Nat.mul_one]) HR1.out (wdV_one _ _) (by omega) (by unfold maxLen; omega) (by simp) ?_; intro v' w2 hown2 hgr2 hnew2 hnil2)
    obtain ⟨A1, c1, rfl, hA1, hB2⟩ := loads_in hown2 hgr2 HB1.out
    have HA1 := Lib.hid hA1
    have HB2 := Lib.hid hB2
    have HR2 := Lib.hid (HR.out.below hB2)
    clear hown2 hgr2 hnew2 hnil2 hA1 hB2
    go_wp2_with fail
    have hc : Calls Try.prog 17 #[.int .i64 n, .slice A1 len c1] w2 (Loaded n f w2) := by
      have h1 := HA1.out
      have h2 := HF.out
      have h3 := HH.out
      subst h3
      exact load_gen w2 n A1 c1 f (by omega) h1 h2
    refine hc.mono ?_
    clear hc
    rintro e w3 ⟨hb3, hcase⟩
    have HB3 := Lib.hid (bel_next HB2.out hb3 (Nat.le_refl _))
    have HR3 := Lib.hid (HR2.out.below hb3)
    have HA3 := Lib.hid (HA1.out.below hb3)
    clear hb3
    have hlast : s = 0 ∨ (0 < s ∧ 1 ≤ len ∧ ∃ b o, a0 = some ⟨b, o, none⟩ ∧ w3.cell? ⟨b, o + (len - 1), none⟩ = some (.int .u64 (wd f (len - 1)))) := by
      by_cases h0 : s = 0
      · exact .inl h0
      · have h1 : 1 ≤ len := by have := HH.out; have := HS.out; unfold wn at *; omega
        obtain ⟨b, o, ha, _, hc⟩ := (HR3.out).resolve_left (by omega)
        exact .inr ⟨by omega, h1, b, o, ha, hc _ _ (wdV_at len f (len - 1) (by omega))⟩
    have hiff : 0 < s → (wd f (len - 1) / 2 ^ s = 0 ↔ ∀ i, n ≤ i → f i = false) := fun h => shr_zero f n (len - 1) s (by have := HH.out; have := HS.out; unfold wn at *; omega) hs64 (fun i hi => HF.out i (by have := HH.out; have := HS.out; unfold wn at *; omega))
    have hzero : s = 0 → ∀ i, n ≤ i → f i = false := fun h i hi => HF.out i (by have := HH.out; have := HS.out; unfold wn at *; omega)
    rcases hcase with ⟨rfl, hex⟩ | ⟨r, a, c, rfl, hfine, hrow, h1, h2, h3⟩
    · rcases hlast with h0 | ⟨h0, hl1, b, o, rfl, hcell⟩
      · obtain ⟨i, hi, hfi⟩ := hex
        rw [hzero h0 i hi] at hfi
        cases hfi
      · obtain ⟨y, hy⟩ : ∃ y, wd f (len - 1) / 2 ^ s = y := ⟨_, rfl⟩
        have hy0 : y ≠ 0 := fun e => by
          obtain ⟨i, hi, hfi⟩ := hex
          rw [(hiff h0).1 (by rw [hy, e]) i hi] at hfi
          cases hfi
        have hyi : ((wd f (len - 1) : Nat) : Int) / 2 ^ s = (y : Int) := by rw [← hy]; simp
        have hyb : ((y : Int) == 0) = false := by simp; omega
        have hle := wd_lt f (len - 1)
        have hyl : y ≤ wd f (len - 1) := by rw [← hy]; exact Nat.div_le_self _ _
        generalize wd f (len - 1) = x at *
        obtain ⟨l1, hl2⟩ : ∃ l1, len - 1 = l1 := ⟨_, rfl⟩
        rw [hl2] at hcell
        have hli : (len : Int) - 1 = (l1 : Int) := by omega
        clear hiff hzero hex hy hl2
        go_wp2
        go_ret
        exact ⟨rfl, HB3.out⟩
    · have HRow := Lib.hid hrow
      have HFine := Lib.hid hfine
      have HG := Lib.hid (And.intro h1 (And.intro h2 h3))
      clear hrow h1 h2 h3
      rcases hlast with h0 | ⟨h0, hl1, b, o, rfl, hcell⟩
      case' inl =>
        subst h0
        rw [show ((0 : Nat) : Int) = 0 from rfl] at hsi
        clear hiff hzero hfine
        go_wp2_with fail
      case' inr =>
        have hy := (hiff h0).2 hfine
        have hyi : ((wd f (len - 1) : Nat) : Int) / 2 ^ s = 0 := by have : ((wd f (len - 1) : Nat) : Int) / 2 ^ s = ((wd f (len - 1) / 2 ^ s : Nat) : Int) := by simp
                                                                    rw [this, hy]; rfl
        have hle := wd_lt f (len - 1)
        generalize wd f (len - 1) = x at *
        obtain ⟨l1, hl2⟩ : ∃ l1, len - 1 = l1 := ⟨_, rfl⟩
        rw [hl2] at hcell
        have hli : (len : Int) - 1 = (l1 : Int) := by omega
        clear hiff hzero hfine hy hl2
        go_wp2_with fail
      all_goals
        refine (words_row _ r a c n f _ HRow.out).mono ?_
        rintro e w4 ⟨v4, rfl, hown4, hb4⟩
        obtain ⟨A4, c4, rfl⟩ := ownsRow_slice hown4
        have hq4 := RdAt.of_own hown4
        rw [← HH.out] at hq4
        have HQ4 := Lib.hid hq4
        have hww : wn n = len := HH.out.symm
        rw [hww]
        have HB4 := Lib.hid (bel_next HB3.out hb4 (Nat.le_refl _))
        have HR4 := Lib.hid (HR3.out.below hb4)
        have HA4 := Lib.hid (HA3.out.below hb4)
        have HRow4 := Lib.hid (HRow.out.below hb4)
        clear hown4 hq4 hb4 hww
        go_wp2_with fail
        refine (same8_yes _ A4 _ len c4 cap f HQ4.out HR4.out (by omega)).mono ?_
        rintro e w5 ⟨rfl, hb5⟩
        have HB5 := Lib.hid (bel_next HB4.out hb5 (Nat.le_refl _))
        have HR5 := Lib.hid (HR4.out.below hb5)
        have HA5 := Lib.hid (HA4.out.below hb5)
        have HRow5 := Lib.hid (HRow4.out.below hb5)
        clear hb5
        go_wp2_with fail
        refine (next_calls _ r a c n f _ 0 HRow5.out (by omega)).mono ?_
        rintro e w6 ⟨v, rfl, hv, rfl⟩
        have HV := Lib.hid hv
        clear hv
        go_wp2_with fail
        go_loopg [9, 10] (n + 1) (fun k cn i wr' => ∃ (L : Nat) (v : Int), k + L = n + 1 ∧ L ≤ n ∧ cn = .int .i64 (cntF f L : Nat) ∧ i = .int .i64 v ∧ NextR f L v ∧ w5 = wr')
        case atStart => exact ⟨0, v, by omega, by omega, rfl, rfl, HV.out, rfl⟩
        case round =>
          obtain ⟨L, v, hk, hLm, rfl, rfl, hv, rfl⟩ := hrel
          have hcl := cntF_le f L
          rcases hv with ⟨rfl, hno⟩ | ⟨x, rfl, hx1, hx2, hx3⟩
          · have he : cntF f n = cntF f L := cntF_flat n hLm (fun i h1 _ => hno i h1)
            have HE := Lib.hid he
            clear he hno
            go_wp2_with fail
            refine (count_row _ r a c n f _ HRow5.out).mono ?_
            rintro e w7 ⟨rfl, rfl⟩
            rw [HE.out]
            go_wp2_with fail
            refine (same8_yes _ A1 _ len c1 cap f HA5.out HR5.out (by omega)).mono ?_
            rintro e w8 ⟨rfl, hb8⟩
            have HB8 := Lib.hid (bel_next HB5.out hb8 (Nat.le_refl _))
            clear hb8
            go_wp2
            go_ret
            exact ⟨rfl, HB8.out⟩
          · have hxm : x < n := by
              rcases Nat.lt_or_ge x n with h | h
              · exact h
              · have := HFine.out x h; rw [hx2] at this; cases this
            have hcx : cntF f (x + 1) = cntF f L + 1 := by
              simp only [cntF]; rw [cntF_flat x hx1 (fun i h1 h2 => hx3 i h1 h2), hx2]; simp
            have HCx := Lib.hid hcx
            obtain ⟨m, hm⟩ : ∃ m, x / 64 = m := ⟨_, rfl⟩
            obtain ⟨t, ht⟩ : ∃ t, x % 64 = t := ⟨_, rfl⟩
            have hmi : (x : Int) / 64 = (m : Int) := by omega
            have hti : (x : Int) % 64 = (t : Int) := by omega
            have hml : m < len := by have := HH.out; unfold wn at this; omega
            have ht64 : t < 64 := by omega
            obtain ⟨bb, oo, ha0, hbb, hcc⟩ := (HR5.out).resolve_left (by omega)
            have dx := hcc m _ (wdV_at len f m hml)
            have hbit := wd_bit f x
            rw [hm, ht, hx2, if_pos rfl] at hbit
            have hwl := wd_lt f m
            have hand := and1_of (wd f m) t hwl 1 hbit
            first | subst ha0 | cases ha0
            clear hcx hx2 hx3 hcc hbit hm ht
            go_wp2_with fail
            refine (next_calls _ r a c n f _ (x + 1) HRow5.out (by omega)).mono ?_
            rintro e w8 ⟨v2, rfl, hv2, rfl⟩
            have HV2 := Lib.hid hv2
            clear hv2
            go_wp2
            go_roundg (n - x)
            case measure => omega
            case rel => exact ⟨x + 1, v2, by omega, by omega, by rw [HCx.out]; go_num, rfl, HV2.out, rfl⟩

theorem loads_walk (n : Int) (a0 : Option Addr) (len cap : Nat) (zs : List Int) (w : World) (wn0 : (Lit.int .i64 n).wf = true) (hrow : IsRow .u64 w a0 len cap zs) :
    Calls Try.prog 5 #[.int .i64 n, .slice a0 len cap] w fun e w' => e = .returned (.bool true) ∧ Below w.heap.size w w' := by
  have hlen := hrow.len_le
  obtain ⟨f, hr, hf⟩ := words_of_row hrow
  by_cases h1 : 20 < len ∨ (2000 < n ∧ n ≤ 65536)
  · exact loads_out n a0 len cap w hlen h1
  · by_cases h2 : n < 0 ∨ 65536 < n
    · exact loads_bad n a0 len cap f w hr (by omega) h2
    · obtain ⟨N, rfl⟩ := Int.eq_ofNat_of_zero_le (show 0 ≤ n by omega)
      by_cases h3 : len = wn N
      · exact loads_yes N a0 len cap f w hr (by omega) (by omega) h3 hf
      · exact loads_len N a0 len cap f w hr (by omega) (by omega) h3
end Go.Proofs.Ytddajgdjmmnnpaa
