/- The document's spans (mothballref15): Find, Give. -/
import Derived.Test.YtakcdkcikopoiaaSpnD
namespace Go.Proofs.Ytakcdkcikopoiaa
open Go.RowKit
set_option linter.unusedVariables false

def FindP (pg ps cl : Int) (f : Nat → Bool) (x : Int) (w : World) (e : Ending) (w' : World) : Prop :=
  Below w.heap.size w w' ∧ ((e = .returned (.tuple #[.int .i64 0, .int .i64 0, .bool false]) ∧ WhichR pg (perN cl) (sizN cl ps) f x (-1) 0) ∨
       ∃ (i : Nat) (u : Int), e = .returned (.tuple #[.int .i64 (x - u), .int .i64 (sizN cl ps : Nat), .bool true]) ∧ WhichR pg (perN cl) (sizN cl ps) f x i u)
set_option maxHeartbeats 4000000 in
set_option maxRecDepth 8000 in
theorem find15r_calls (pg ps cl : Int) (A : Option Addr) (len cap : Nat) (f : Nat → Bool) (x : Int) (w : World) (hg : Good pg ps cl len f) (hx : I64 x) (h : WordsAt w A len f) :
    Calls Try.prog 19 #[spV pg ps cl A len cap, .int .i64 x] w (FindP pg ps cl f x w) := by
  obtain ⟨w1, hw1, hS, hB⟩ := one_span w pg ps cl A len cap
  have HG := Lib.hid hg
  have HI := Lib.hid hg.i64
  have HB := Lib.hid hB
  have HS := Lib.hid hS
  have HW := Lib.hid (h.below hB)
  obtain ⟨s0, s1, s2, s3⟩ := hS.cells
  obtain ⟨z0, z1, z2, z3, z4, z5⟩ := hg.size
  have p1 := hg.p1
  have p2 := hg.p2
  have p3 := hg.p3
  have HZ := Lib.hid z0
  unfold I64 at hx
  obtain ⟨S, hSz⟩ : ∃ S, sizN cl ps = S := ⟨_, rfl⟩
  obtain ⟨P, hPn⟩ : ∃ P, perN cl = P := ⟨_, rfl⟩
  rw [hSz] at z1 z2 z5 HZ
  rw [hPn] at z3 z4 z5
  have HSz := Lib.hid hSz
  have HPn := Lib.hid hPn
  have HZ5 := Lib.hid z5
  clear h hg hS hB z0 z5 hSz hPn
  unfold spV
  go_enter Try.func19, Try.ntmps19
  go_wp2_with fail
  refine (bits15_calls pg ps cl A len cap f _ HI.out.2.2 HW.out).mono ?_
  rintro e w2 ⟨hb, ⟨hno, rfl⟩ | ⟨v, hok, rfl, hown⟩⟩
  · exact absurd HG.out.live hno
  obtain ⟨B, cb, hv⟩ := ownsRow_slice hown
  subst hv
  rw [HPn.out] at hown ⊢
  have HB2 := Lib.hid (bel_next HB.out hb (Nat.le_refl _))
  have HS2 := Lib.hid (HS.out.below hb)
  have HR2 := Lib.hid (RdAt.of_own hown)
  clear hb hown hok hw1
  go_wp2_with fail
  go_loopg [9, 10] P (fun q i t wr => ∃ j : Nat, q + j = P ∧ i = .int .i64 j ∧ Below w2.heap.size w2 wr ∧ Hid (∀ i : Nat, i < j → f i = true → 512 * pg + ((i * S : Nat) : Int) ≤ x → 512 * pg + ((i * S : Nat) : Int) + S ≤ x))
  case atStart => exact ⟨0, by omega, rfl, Below.refl _ _, Lib.hid (fun i h => by omega)⟩
  case round =>
    obtain ⟨j, hj, rfl, hb, hall⟩ := hrel
    have HBr := Lib.hid hb
    have HBw := Lib.hid (bel_next HB2.out hb (Nat.le_refl _))
    have HSd := Lib.hid (HS2.out.below hb)
    have hrd := HR2.out.below hb
    obtain ⟨s0, s1, s2, s3⟩ := HSd.out.cells
    obtain ⟨wo, rfl⟩ : ∃ wo : World, wo = wr := ⟨_, rfl⟩
    clear hb
    by_cases hlt : j < P
    · obtain ⟨bb, oo, rfl, hlb, hcc⟩ := hrd.resolve_left (by omega)
      have HCc := Lib.hid hcc
      have h5 : (j + 1) * S ≤ P * S := Nat.mul_le_mul_right _ hlt
      rw [Nat.add_mul, Nat.one_mul] at h5
      have h6 := HZ5.out
      obtain ⟨m, hm⟩ : ∃ m, j * S = m := ⟨_, rfl⟩
      have hmi : (j : Int) * (S : Int) = (m : Int) := by rw [← hm]; simp
      have hm6 : (m : Int) + S ≤ 512 * ps := by omega
      have hm7 : (m : Int) ≤ 2097152 := by omega
      have HM := Lib.hid hm
      have HBd := Lib.hid (show Below wo.heap.size wo wo.drew from (Below.refl _ _).drew)
      replace HSd := Lib.hid (show SpB wo.drew w.heap.size pg ps cl (A) len cap from HSd.out)
      clear h5 h6 hm hrd hcc
      have hval : IntKind.i64.wrap (IntKind.i64.wrap (512 * pg) + IntKind.i64.wrap (m : Int)) = 512 * pg + (m : Int) := by
        rw [IntWalk.i64_in (512 * pg) (by omega), IntWalk.i64_in (m : Int) (by omega), IntWalk.i64_in _ (by omega)]
      have HVal := Lib.hid hval
      clear hval
      have hcase : (f j = false ∧ True) ∨ (f j = true ∧ x < 512 * pg + (m : Int)) ∨ (f j = true ∧ 512 * pg + (m : Int) ≤ x ∧ 512 * pg + (m : Int) + S ≤ x) ∨ (f j = true ∧ 512 * pg + (m : Int) ≤ x ∧ x < 512 * pg + (m : Int) + S) := by
        cases f j
        · exact .inl ⟨rfl, trivial⟩
        · by_cases h1 : x < 512 * pg + (m : Int)
          · exact .inr (.inl ⟨rfl, h1⟩)
          · by_cases h2 : x < 512 * pg + (m : Int) + S
            · exact .inr (.inr (.inr ⟨rfl, by omega, h2⟩))
            · exact .inr (.inr (.inl ⟨rfl, by omega, by omega⟩))
      rcases hcase with ⟨hf, _⟩ | ⟨hf, h1⟩ | ⟨hf, h1, h2⟩ | ⟨hf, h1, h2⟩
      · have HF := Lib.hid hf
        have hdx := HCc.out j _ (fnV_at P _ j hlt)
        rw [hf] at hdx
        have HDx := Lib.hid hdx
        clear hf hdx
        go_wp2_with fail
        go_region_with (first | (go_at_call 37; refine (size15_calls pg ps cl A len cap _ HI.out.2.1 HI.out.2.2).mono ?_; rintro e w5 ⟨rfl, hb⟩; rw [HZ.out]; obtain ⟨s0, s1, s2, s3⟩ := (HSd.out.below hb).cells; have HBd := Lib.hid (HBd.out.trans (hb.mono HBd.out.size)); have HSd := Lib.hid (HSd.out.below hb); clear hb))
        all_goals
          rw [HVal.out]
          have dx := (HBd.out.cell (p := ⟨bb, oo + j, none⟩) hlb).trans HDx.out
          go_wp2
          go_roundg (P - (j + 1))
          case measure => omega
          case rel => exact ⟨j + 1, by omega, by go_num, HBr.out.trans (HBd.out.mono HBr.out.size), Lib.hid (fun i h1 h2 h3 => by by_cases hij : i = j; rw [hij, HF.out] at h2; cases h2; exact hall.out i (by omega) h2 h3)⟩
      · have HF := Lib.hid hf
        have hdx := HCc.out j _ (fnV_at P _ j hlt)
        rw [hf] at hdx
        have HDx := Lib.hid hdx
        clear hf hdx
        go_wp2_with fail
        go_region_with (first | (go_at_call 37; refine (size15_calls pg ps cl A len cap _ HI.out.2.1 HI.out.2.2).mono ?_; rintro e w5 ⟨rfl, hb⟩; rw [HZ.out]; obtain ⟨s0, s1, s2, s3⟩ := (HSd.out.below hb).cells; have HBd := Lib.hid (HBd.out.trans (hb.mono HBd.out.size)); have HSd := Lib.hid (HSd.out.below hb); clear hb))
        all_goals
          rw [HVal.out]
          have dx := (HBd.out.cell (p := ⟨bb, oo + j, none⟩) hlb).trans HDx.out
          go_wp2
          go_roundg (P - (j + 1))
          case measure => omega
          case rel => exact ⟨j + 1, by omega, by go_num, HBr.out.trans (HBd.out.mono HBr.out.size), Lib.hid (fun i g1 g2 g3 => by by_cases hij : i = j; rw [hij, HM.out] at g3; omega; exact hall.out i (by omega) g2 g3)⟩
      · have HF := Lib.hid hf
        have hdx := HCc.out j _ (fnV_at P _ j hlt)
        rw [hf] at hdx
        have HDx := Lib.hid hdx
        have H2 := Lib.hid h2
        clear hf hdx
        go_wp2_with fail
        go_region_with (first | (go_at_call 37; refine (size15_calls pg ps cl A len cap _ HI.out.2.1 HI.out.2.2).mono ?_; rintro e w5 ⟨rfl, hb⟩; rw [HZ.out]; obtain ⟨s0, s1, s2, s3⟩ := (HSd.out.below hb).cells; have HBd := Lib.hid (HBd.out.trans (hb.mono HBd.out.size)); have HSd := Lib.hid (HSd.out.below hb); clear hb))
        all_goals
          rw [HVal.out]
          have dx := (HBd.out.cell (p := ⟨bb, oo + j, none⟩) hlb).trans HDx.out
          go_wp2_with (go_at_call 37; refine (size15_calls pg ps cl A len cap _ HI.out.2.1 HI.out.2.2).mono ?_; rintro e w6 ⟨rfl, hb⟩; rw [HZ.out]; obtain ⟨s0, s1, s2, s3⟩ := (HSd.out.below hb).cells; have HBd := Lib.hid (HBd.out.trans (hb.mono HBd.out.size)); have HSd := Lib.hid (HSd.out.below hb); clear hb)
          go_roundg (P - (j + 1))
          case measure => omega
          case rel => exact ⟨j + 1, by omega, by go_num, HBr.out.trans (HBd.out.mono HBr.out.size), Lib.hid (fun i g1 g2 g3 => by by_cases hij : i = j; rw [hij, HM.out]; exact H2.out; exact hall.out i (by omega) g2 g3)⟩
      · have HF := Lib.hid hf
        have hdx := HCc.out j _ (fnV_at P _ j hlt)
        rw [hf] at hdx
        have HDx := Lib.hid hdx
        have H1 := Lib.hid h1
        have H2 := Lib.hid h2
        clear hf hdx
        go_wp2_with fail
        go_region_with (first | (go_at_call 37; refine (size15_calls pg ps cl A len cap _ HI.out.2.1 HI.out.2.2).mono ?_; rintro e w5 ⟨rfl, hb⟩; rw [HZ.out]; obtain ⟨s0, s1, s2, s3⟩ := (HSd.out.below hb).cells; have HBd := Lib.hid (HBd.out.trans (hb.mono HBd.out.size)); have HSd := Lib.hid (HSd.out.below hb); clear hb))
        all_goals
          rw [HVal.out]
          have dx := (HBd.out.cell (p := ⟨bb, oo + j, none⟩) hlb).trans HDx.out
          go_wp2_with (go_at_call 37; refine (size15_calls pg ps cl A len cap _ HI.out.2.1 HI.out.2.2).mono ?_; rintro e w6 ⟨rfl, hb⟩; rw [HZ.out]; obtain ⟨s0, s1, s2, s3⟩ := (HSd.out.below hb).cells; have HBd := Lib.hid (HBd.out.trans (hb.mono HBd.out.size)); have HSd := Lib.hid (HSd.out.below hb); clear hb)
          go_ret3
          refine ⟨bel_next HBw.out HBd.out (Nat.le_refl _), .inr ⟨j, x - (512 * pg + (m : Int)), ?_, ?_⟩⟩
          · rw [HSz.out, show x - (x - (512 * pg + (m : Int))) = 512 * pg + (m : Int) by omega]
            rfl
          · rw [HSz.out, HPn.out]
            exact .inr ⟨j, hlt, HF.out, rfl, by rw [HM.out]; omega, by have := H1.out; omega, by have := H2.out; omega⟩
    · obtain rfl : j = P := by omega
      go_wp2
      go_ret3
      refine ⟨HBw.out, .inl ⟨rfl, ?_⟩⟩
      rw [HSz.out, HPn.out]
      exact .inl ⟨rfl, rfl, hall.out⟩
end Go.Proofs.Ytakcdkcikopoiaa
