/- The walk of IntsOctets over the contracts. -/
import Derived.Test.YtebkikmgjmmnpaaIntsP
namespace Go.Proofs.Ytebkikmgjmmnpaa
open Go.RowKit
set_option linter.unusedVariables false

theorem bel_next {B : Nat} {w W W' : World} (h : Below B w W) (k : Below W.heap.size W W') (hB : B ≤ w.heap.size) : Below B w W' := h.trans (k.mono (Nat.le_trans hB h.size))

set_option maxHeartbeats 2000000 in
theorem octets_walk (n size : Int) (a : Option Addr) (len cap : Nat) (zs : List Int) (w : World) (wn : (Lit.int .i64 n).wf = true) (ws : (Lit.int .i64 size).wf = true) (hr : IsRow .u8 w a len cap zs) :
    Calls Try.prog 7 #[.int .i64 n, .int .i64 size, .slice a len cap] w fun e w' => e = .returned (.bool true) ∧ Below w.heap.size w w' := by
  obtain ⟨hn', hn⟩ := wf_i64 wn
  have hO := Octs_of_row hr
  have hK := Octs_block hO
  have hmax : len ≤ 9223372036854775807 := by have h1 := hO.2.2.1; have h2 := hO.2.2.2.1; unfold maxLen at h2; omega
  generalize zs.take len = ys at hO
  have HO := Lib.hid hO
  have HK := Lib.hid hK
  clear wn ws hr hO hK
  by_cases c1 : 300 < len
  · go_enter Try.func7, Try.ntmps7
    go_wp2_with fail
    refine (awake_calls _).mono ?_
    rintro e w1 ⟨rfl, hb⟩
    go_wp2_with fail
    refine (awake_calls _).mono ?_
    rintro e w2 ⟨rfl, hb2⟩
    go_wp2
    go_ret
    exact ⟨rfl, bel_next hb hb2 (Nat.le_refl _)⟩
  · have hcb := cnt_bd size 8 (by omega)
    obtain ⟨m, hm⟩ : ∃ m : Nat, cnt size 8 = m := ⟨(cnt size 8).toNat, by omega⟩
    have hm8 : m ≤ 8 := by omega
    have HM := Lib.hid hm
    clear hm hcb
    go_enter Try.func7, Try.ntmps7
    go_wp2_with fail
    refine (awake_calls _).mono ?_
    rintro e w1 ⟨rfl, hB1⟩
    go_wp2_with fail
    refine (lay_calls n size _ hn hn').mono ?_
    rintro e w2 ⟨v, rfl, hown, hb2⟩
    rw [HM.out, Int.toNat_natCast] at hown
    have hB2 := bel_next hB1 hb2 (Nat.le_refl _)
    have hB3 : Below w.heap.size w w2.drew := hB2.drew
    have hC3 : Below w2.heap.size w2 w2.drew := (Below.refl _ _).drew
    have hsv := fun (W : World) (h : Below w2.heap.size w2 W) => run_string_own (P := Try.prog) (w := W) (ownsRow_below hown h) 29 9 Try.underlying29 Try.underlying5 Try.underlying9
    have hxo : ∃ a' cap', v = .slice a' m cap' ∧ Octs w2 a' m cap' (layL n m) := Octs_of_own hown (layL_bd n m)
    obtain ⟨a', cap', rfl, hX⟩ := hxo
    have HX := Lib.hid hX
    have HXK := Lib.hid (Octs_block hX)
    have hv1 : wrap64 (oct ((layL n 8).take 8)) = n := by
      rw [List.take_of_length_le (by rw [layL_length]; omega), oct_lay]
      rw [show 8 * 8 = 64 from rfl, Nat.mod_eq_of_lt (by have := U_lt n; omega)]
      exact wrap_U n hn hn'
    have hv2 : wrap64 (oct ((layL n m).take 8)) = lowL n (8 * m) := by
      rw [List.take_of_length_le (by rw [layL_length]; omega), oct_lay]
      unfold lowL
      have : (cnt (8 * (m : Int)) 64).toNat = 8 * m := by unfold cnt; omega
      rw [this]
    have HV1 := Lib.hid hv1
    have HV2 := Lib.hid hv2
    clear hB1 hb2 hX hv1 hv2 hown
    go_wp2_with fail
    go_region_with (first
      | (go_at_call 21; refine (rlay_calls _ _ _).mono ?_; rintro e w3 ⟨v3, rfl, hown3, hb3⟩; have hB4 := bel_next (by assumption : Below w.heap.size w _) hb3 (Nat.le_refl _); have hC4 := bel_next (by assumption : Below w2.heap.size w2 _) hb3 (Nat.le_refl _); rw [HM.out, Int.toNat_natCast] at hown3; have hsv3 := fun (W : World) (h : Below w3.heap.size w3 W) => run_string_own (P := Try.prog) (w := W) (ownsRow_below hown3 h) 29 9 Try.underlying29 Try.underlying5 Try.underlying9; have hD4 : Below w3.heap.size w3 w3 := Below.refl _ _; clear hown3 hb3)
      | (go_at_call 22; refine (get_calls _ _ _ _ _ (Octs_below HO.out (by assumption) HK.out)).mono ?_; rintro e w4 ⟨rfl, rfl⟩)
      | (go_at_call 23; refine (rget_calls _ _ _ _ _ (Octs_below HO.out (by assumption) HK.out)).mono ?_; rintro e w4 ⟨rfl, hb4⟩; have hB5 := bel_next (by assumption : Below w.heap.size w _) hb4 (Nat.le_refl _); have hC5 := bel_next (by assumption : Below w2.heap.size w2 _) hb4 (Nat.le_refl _); clear hb4))
    all_goals
      clear hsv hsv3
      go_wp2_with fail
      refine (lay_calls n 8 _ hn hn').mono ?_
      rintro e w5 ⟨v5, rfl, hown5, hb5⟩
      have hB6 := bel_next (by assumption : Below w.heap.size w _) hb5 (Nat.le_refl _)
      have hC6 := bel_next (by assumption : Below w2.heap.size w2 _) hb5 (Nat.le_refl _)
      rw [show (cnt 8 8).toNat = 8 from by decide] at hown5
      obtain ⟨a5, cap5, rfl, hX5⟩ := Octs_of_own hown5 (layL_bd n 8)
      have HX5 := Lib.hid hX5
      clear hown5 hX5 hb5
      go_wp2_with fail
      refine (get_calls _ _ _ _ _ HX5.out).mono ?_
      rintro e w6 ⟨rfl, rfl⟩
      rw [HV1.out]
      go_wp2_with fail
      refine (get_calls _ _ _ _ _ (Octs_below HX.out hC6 HXK.out)).mono ?_
      rintro e w6 ⟨rfl, rfl⟩
      rw [HV2.out]
      go_wp2_with fail
      refine (rlow_calls _ _ _).mono ?_
      rintro e w7 ⟨rfl, hb7⟩
      go_wp2
      go_ret
      exact ⟨rfl, bel_next hB6 hb7 (Nat.le_refl _)⟩
end Go.Proofs.Ytebkikmgjmmnpaa
