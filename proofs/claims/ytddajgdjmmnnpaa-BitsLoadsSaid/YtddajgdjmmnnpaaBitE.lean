/- The document's example for layer 8; the walk of BitsEach. -/
import Derived.Test.YtddajgdjmmnnpaaBitR
namespace Go.Proofs.Ytddajgdjmmnnpaa
open Go.RowKit
set_option linter.unusedVariables false

theorem find_70 : FindR (fillF (fun _ => false) 0 70 true) 100 30 70 :=
  .inr ⟨70, rfl, by omega, fun x h1 h2 => by unfold fillF; rw [if_neg (by omega)], fun y hy => ⟨y, by omega, by omega, by unfold fillF; rw [if_pos (by omega)]⟩⟩
theorem find_none : FindR (fillF (fun _ => false) 0 70 true) 100 31 (-1) :=
  .inl ⟨rfl, fun y hy => ⟨y, by omega, by omega, by unfold fillF; rw [if_pos (by omega)]⟩⟩
theorem RowS_lt {B r a c i : Nat} (h1 : B ≤ r) (h2 : B ≤ a) (h3 : B ≤ c) (h : RowS r a c i) : B ≤ i := by rcases h with rfl | rfl | rfl <;> assumption

set_option maxHeartbeats 1000000 in
theorem awake_calls08 (w : World) : Calls Try.prog 6 #[] w fun e w' => e = .returned (.bool true) ∧ Below w.heap.size w w' := by
  go_enter Try.func6, Try.ntmps6
  go_wp2_with fail
  refine (new_yes w 100 (by omega)).mono ?_
  rintro e w1 ⟨r, a, c, rfl, hr, h1, h2, h3, hb⟩
  have HR := Lib.hid hr
  have HB := Lib.hid hb
  clear hr hb
  go_wp2_with fail
  refine (set_ok w1 r a c 100 _ 0 70 HR.out (by omega) (fun _ _ _ => rfl)).mono ?_
  rintro e w2 ⟨rfl, hr, ho⟩
  have HR2 := Lib.hid hr
  have HB2 := Lib.hid (bel_only HB.out ho (Nat.le_refl _) (fun i => RowS_lt h1 h2 h3))
  clear hr ho
  go_wp2_with fail
  refine (find_calls w2 r a c 100 _ 30 HR2.out (by omega) (by omega)).mono ?_
  rintro e w3 ⟨v, rfl, hv, rfl⟩
  obtain rfl := hv.one find_70
  clear hv
  go_wp2_with fail
  refine (find_calls w2 r a c 100 _ 31 HR2.out (by omega) (by omega)).mono ?_
  rintro e w3 ⟨v, rfl, hv, rfl⟩
  obtain rfl := hv.one find_none
  clear hv
  go_wp2
  go_ret
  exact ⟨rfl, HB2.out⟩

theorem rem_mod (n c : Int) (h : 1 ≤ c) (h2 : c ≤ 1000) : 0 ≤ n.tmod c % c ∧ n.tmod c % c ≤ c - 1 ∧ -c < n.tmod c ∧ n.tmod c < c := by
  have h3 := Int.emod_nonneg (n.tmod c) (show c ≠ 0 by omega)
  have h4 := Int.emod_lt_of_pos (n.tmod c) (show 0 < c by omega)
  have h5 := Int.tmod_lt_of_pos n (show 0 < c by omega)
  have h6 : -c < n.tmod c := by
    have := Int.tmod_lt_of_pos (-n) (show 0 < c by omega)
    rw [Int.neg_tmod] at this
    omega
  omega
theorem fillF_one (f : Nat → Bool) (A : Nat) (s : Bool) : fillF f A 1 s = put f A s := funext fun i => by
  unfold fillF put
  by_cases h : i = A
  · rw [if_pos h, if_pos (by omega)]
  · rw [if_neg h, if_neg (by omega)]
/-- A slice of numbers of 16 bits as it is read. -/
def U16At (w : World) (a : Option Addr) (len : Nat) : Prop :=
  len ≤ 9223372036854775807 ∧ (len = 0 ∨ ∃ b o, a = some ⟨b, o, none⟩ ∧ b < w.heap.size ∧ ∀ i, i < len → ∃ z : Nat, z ≤ 65535 ∧ w.cell? ⟨b, o + i, none⟩ = some (.int .u16 z))
theorem U16At.of_row {w : World} {a : Option Addr} {len cap : Nat} {zs : List Int} (h : IsRow .u16 w a len cap zs) : U16At w a len := by
  rcases h with ⟨rfl, rfl, rfl, rfl⟩ | ⟨x, rfl, h1, h2, h3, h4, h5⟩
  · exact ⟨by omega, .inl rfl⟩
  · unfold maxLen at h2
    refine ⟨by omega, ?_⟩
    by_cases hc : 0 < len
    · obtain ⟨b, o, rfl, hcell⟩ := ints_at h4 (by omega)
      refine .inr ⟨b, o, rfl, World.block_lt_of_cell? w _ (hcell 0 (by omega)), fun i hi => ?_⟩
      have hi2 : i < zs.length := by omega
      have hb := bounds_u16 (h5 zs[i] (List.getElem_mem hi2))
      refine ⟨(zs[i]).toNat, by omega, ?_⟩
      rw [hcell i hi2]
      have : zs.getD i 0 = zs[i] := by simp [List.getD, hi2]
      rw [this, Int.toNat_of_nonneg hb.1]
    · exact .inl (by omega)

set_option maxHeartbeats 4000000 in
theorem each_walk (n : Int) (a0 : Option Addr) (len cap : Nat) (zs : List Int) (w : World) (wn0 : (Lit.int .i64 n).wf = true) (hrow : IsRow .u16 w a0 len cap zs) :
    Calls Try.prog 3 #[.int .i64 n, .slice a0 len cap] w fun e w' => e = .returned (.bool true) ∧ Below w.heap.size w w' := by
  have hat := U16At.of_row hrow
  have hlen := hat.1
  have HAt := Lib.hid hat.2
  obtain ⟨b0, b1, b2, b3⟩ := rem_mod n 500 (by omega) (by omega)
  obtain ⟨m, hm⟩ : ∃ m : Nat, 1 + n.tmod 500 % 500 = m := ⟨(1 + n.tmod 500 % 500).toNat, by omega⟩
  have hm2 : 1 ≤ m ∧ m ≤ 500 := by omega
  have HMm := Lib.hid hm
  clear hat hrow wn0 hm
  by_cases hl : 60 < len
  · go_enter Try.func3, Try.ntmps3
    go_wp2_with fail
    refine (awake_calls08 _).mono ?_
    rintro e w1 ⟨rfl, hb1⟩
    go_wp2_with fail
    refine (awake_calls08 _).mono ?_
    rintro e w2 ⟨rfl, hb2⟩
    go_wp2
    go_ret
    exact ⟨rfl, bel_next hb1 hb2 (Nat.le_refl _)⟩
  · go_enter Try.func3, Try.ntmps3
    go_wp2_with fail
    refine (awake_calls08 _).mono ?_
    rintro e w1 ⟨rfl, hb1⟩
    have HB1 := Lib.hid hb1
    clear hb1
    go_wp2_with fail
    rw [HMm.out]
    refine (new_yes _ m (by omega)).mono ?_
    rintro e w2 ⟨r, a, c, rfl, hr, h1, h2, h3, hb2⟩
    have HR := Lib.hid hr
    have HB2 := Lib.hid (bel_next HB1.out hb2 (Nat.le_refl _))
    have hS : w.heap.size ≤ r ∧ w.heap.size ≤ a ∧ w.heap.size ≤ c := by have := HB1.out.size; omega
    clear hr hb2 h1 h2 h3 b0 b1
    go_wp2_with fail
    refine (new8_calls _ m (by omega)).mono ?_
    rintro e w3 ⟨q, u, rfl, hq, h1, h2, hb3⟩
    have HQ := Lib.hid hq
    have HR3 := Lib.hid (HR.out.below hb3)
    have hD : w.heap.size ≤ q ∧ w.heap.size ≤ u ∧ r < q ∧ r < u ∧ a < q ∧ a < u ∧ c < q ∧ c < u := by
      have := HB2.out.size
      have e1 := HR.out.2.2.2.1.lt
      have e2 := HR.out.2.2.2.2.1.lt
      have e3 := HR.out.2.2.2.2.2.lt
      omega
    have HB3 := Lib.hid (bel_next HB2.out hb3 (Nat.le_refl _))
    have HD := Lib.hid hD
    have HS := Lib.hid hS
    clear hq h1 h2 hb3 hD hS HB1 HB2 HR
    go_wp2_with fail
    go_loopg [9] len (fun k i wr => ∃ (j : Nat) (f : Nat → Bool), k + j = len ∧ i = .int .i64 j ∧ RowAt wr r a c m f ∧ R8At wr q u m f ∧ Below w.heap.size w wr)
    case atStart => exact ⟨0, _, by omega, rfl, HR3.out, HQ.out, HB3.out⟩
    case round =>
      obtain ⟨j, f, hj, rfl, hr, hq, hb⟩ := hrel
      have HR := Lib.hid hr
      have HQ := Lib.hid hq
      have HB := Lib.hid hb
      clear hr hq hb
      by_cases hlt : j < len
      · obtain ⟨b, o, ha, hbl, hcells⟩ := (HAt.out).resolve_left (by omega)
        obtain ⟨z, hz, hc0⟩ := hcells j hlt
        have d0 := (HB.out.cell (p := ⟨b, o + j, none⟩) hbl).trans hc0
        obtain ⟨K, hK⟩ : ∃ K, z % m = K := ⟨_, rfl⟩
        have hKm : K < m := by rw [← hK]; exact Nat.mod_lt _ (by omega)
        have hKi : (z : Int) % (m : Int) = (K : Int) := by rw [← hK]; simp
        have hKt : (z : Int).tmod (m : Int) = (K : Int) := by rw [Int.tmod_eq_emod_of_nonneg (by omega)]; exact hKi
        have hm0 : ¬ (m : Int) = 0 := by omega
        clear hcells hc0 hbl hK
        subst ha
        cases hf : f K
        · have HF := Lib.hid hf
          clear hf
          go_wp2_with fail
          refine (set_ok _ r a c m f K 1 HR.out (by omega) (fun i h1 h2 => by rw [show i = K by omega]; exact HF.out)).mono ?_
          rintro e w4 ⟨rfl, hr4, ho4⟩
          rw [fillF_one] at hr4
          have HR4 := Lib.hid hr4
          have HQ4 := Lib.hid (HQ.out.only ho4 (by have := HD.out; rintro (h | h | h) <;> omega) (by have := HD.out; rintro (h | h | h) <;> omega))
          have HB4 := Lib.hid (bel_only HB.out ho4 (Nat.le_refl _) (fun i => RowS_lt HS.out.1 HS.out.2.1 HS.out.2.2))
          clear hr4 ho4
          go_wp2_with fail
          refine (turn8_ok _ q u m f K HQ4.out hKm HF.out).mono ?_
          rintro e w5 ⟨rfl, hq5, ho5⟩
          have HQ5 := Lib.hid hq5
          have HR5 := Lib.hid (HR4.out.only ho5 (by have := HD.out; rintro (h | h) <;> omega) (by have := HD.out; rintro (h | h) <;> omega) (by have := HD.out; rintro (h | h) <;> omega))
          have HB5 := Lib.hid (bel_only HB4.out ho5 (Nat.le_refl _) (fun i hi => by have := HD.out; rcases hi with h | h <;> omega))
          clear hq5 ho5
          go_wp2
          go_roundg (gk - 1)
          case measure => omega
          case rel => exact ⟨j + 1, _, by omega, by go_num, HR5.out, HQ5.out, HB5.out⟩
        · have HF := Lib.hid hf
          clear hf
          go_wp2_with fail
          refine (set_no _ r a c m f K HR.out hKm HF.out).mono ?_
          rintro e w4 ⟨rfl, rfl⟩
          go_wp2_with fail
          refine (turn8_no _ q u m f K HQ.out hKm HF.out).mono ?_
          rintro e w5 ⟨rfl, rfl⟩
          go_wp2
          go_roundg (gk - 1)
          case measure => omega
          case rel => exact ⟨j + 1, _, by omega, by go_num, HR.out, HQ.out, HB.out⟩
      · obtain rfl : j = len := by omega
        go_wp2_with fail
        refine (next_calls _ r a c m f _ 0 HR.out (by omega)).mono ?_
        rintro e w6 ⟨v, rfl, hv, rfl⟩
        have HV := Lib.hid hv
        clear hv
        go_wp2_with fail
        go_loopg [11, 12, 13] (m + 1) (fun k l cn i wr' => ∃ (L : Nat) (v : Int), k + L = m + 1 ∧ L ≤ m ∧ l = .int .i64 ((L : Int) - 1) ∧ cn = .int .i64 (cntF f L : Nat) ∧ i = .int .i64 v ∧ NextR f L v ∧ wr = wr')
        case atStart => exact ⟨0, v, by omega, by omega, rfl, rfl, rfl, HV.out, rfl⟩
        case round =>
          obtain ⟨L, v, hk, hLm, rfl, rfl, rfl, hv, rfl⟩ := hrel
          have hcl := cntF_le f L
          rcases hv with ⟨rfl, hno⟩ | ⟨x, rfl, hx1, hx2, hx3⟩
          · have he : cntF f m = cntF f L := cntF_flat m hLm (fun i h1 _ => hno i h1)
            have HE := Lib.hid he
            clear he hno
            go_wp2_with fail
            refine (count8_calls _ q u m f HQ.out).mono ?_
            rintro e w7 ⟨rfl, rfl⟩
            rw [HE.out]
            go_wp2
            go_ret
            exact ⟨rfl, HB.out⟩
          · have hxm : x < m := by
              rcases Nat.lt_or_ge x m with h | h
              · exact h
              · have := HR.out.2.2.1 x h; rw [hx2] at this; cases this
            have hcx : cntF f (x + 1) = cntF f L + 1 := by
              simp only [cntF]; rw [cntF_flat x hx1 (fun i h1 h2 => hx3 i h1 h2), hx2]; simp
            have HCx := Lib.hid hcx
            have d0 := HQ.out.2.2.1.cell 0
            simp only [List.getElem?_cons_zero] at d0
            have dx := HQ.out.2.2.2.cell x
            rw [fnV_at _ _ _ hxm, hx2] at dx
            clear hcx hx2 hx3
            have g1 : ¬ (x : Int) ≤ (L : Int) - 1 := by omega
            have g2 : ¬ (m : Int) ≤ (x : Int) := by omega
            go_wp2_with fail
            refine (next_calls _ r a c m f _ (x + 1) HR.out (by omega)).mono ?_
            rintro e w8 ⟨v2, rfl, hv2, rfl⟩
            have HV2 := Lib.hid hv2
            clear hv2
            go_wp2
            go_roundg (m - x)
            case measure => omega
            case rel => exact ⟨x + 1, v2, by omega, by omega, by go_num, by rw [HCx.out]; go_num, rfl, HV2.out, rfl⟩
end Go.Proofs.Ytddajgdjmmnnpaa
