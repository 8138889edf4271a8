/- The walk through the document's Victim. -/
import Derived.Test.YtooooidnchgkaaaClkP
import Derived.Deep.DeepCutAuto
namespace Go.Proofs.Ytooooidnchgkaaa
open Go.RowKit
set_option linter.unusedVariables false

theorem RefAt.drewN {w : World} {q u k : Nat} {ms : List Int} {h : Nat} (hc : RefAt w q u k ms h) (n : Nat) : RefAt (w.drewN n) q u k ms h := hc
theorem only_drewN {S : Nat → Prop} {a b : World} (h : Only S a b) (n : Nat) : Only S a (b.drewN n) := ⟨h.os, h.tape, h.output, h.size, h.block⟩
/-- The hand is moved. -/
theorem RefAt.hand {w : World} {q u k : Nat} {ms : List Int} {h : Nat} (hc : RefAt w q u k ms h) (h' : Nat) (hh : h' < ms.length) : RefAt (w.setCell ⟨q, 2, none⟩ (.int .i64 h')) q u k ms h' := by
  obtain ⟨g1, g2, g3, g4, g5, g6, g7, g8⟩ := hc
  exact ⟨g1, g2, g3, g4, hh, by simpa using g6.set 2 (.int .i64 h'), g7.set_other (fun e => g1 e.symm) 2 _, g8.set_other (fun e => g2 e.symm) 2 _⟩
/-- A mark is taken off a place in use. -/
theorem RefAt.plain {w : World} {q u k : Nat} {ms : List Int} {h : Nat} (hc : RefAt w q u k ms h) (i : Nat) (hi : mk ms i = 2) : RefAt (w.setCell ⟨k, i, none⟩ (.bool false)) q u k (ms.set i 1) h := by
  obtain ⟨g1, g2, g3, g4, g5, g6, g7, g8⟩ := hc
  refine ⟨g1, g2, g3, by simpa using g4, by simpa using g5, ?_, ?_, ?_⟩
  · simpa using g6.set_other (c := k) g2 i (.bool false)
  · exact (use_same (f := fun x => x != 0) g7 i 1 (by rw [hi]; rfl)).set_other (c := k) g3 i (.bool false)
  · exact use_set (f := fun x => x == 2) g8 i 1 false rfl

/-- The loop that moves the hand over: the row is as the clock with a hand that may stand behind the last place. -/
def RefMid (w : World) (q u k : Nat) (ms : List Int) (h : Nat) : Prop :=
  q ≠ u ∧ q ≠ k ∧ u ≠ k ∧ ms.length ≤ 60 ∧ Blk w q [.slice (some ⟨u, 0, none⟩) ms.length ms.length, .slice (some ⟨k, 0, none⟩) ms.length ms.length, .int .i64 h] 43 ∧ Blk w u (ms.map fun x => .bool (x != 0)) 4 ∧ Blk w k (ms.map fun x => .bool (x == 2)) 4
theorem RefAt.mid {w : World} {q u k : Nat} {ms : List Int} {h : Nat} (hc : RefAt w q u k ms h) (h' : Nat) : RefMid (w.setCell ⟨q, 2, none⟩ (.int .i64 h')) q u k ms h' := by
  obtain ⟨g1, g2, g3, g4, g5, g6, g7, g8⟩ := hc
  exact ⟨g1, g2, g3, g4, by simpa using g6.set 2 (.int .i64 h'), g7.set_other (fun e => g1 e.symm) 2 _, g8.set_other (fun e => g2 e.symm) 2 _⟩
theorem RefMid.drewN {w : World} {q u k : Nat} {ms : List Int} {h : Nat} (hc : RefMid w q u k ms h) (n : Nat) : RefMid (w.drewN n) q u k ms h := hc
theorem RefMid.whole {w : World} {q u k : Nat} {ms : List Int} {h : Nat} (hc : RefMid w q u k ms h) (hh : h < ms.length) : RefAt w q u k ms h := by
  obtain ⟨g1, g2, g3, g4, g6, g7, g8⟩ := hc
  exact ⟨g1, g2, g3, g4, hh, g6, g7, g8⟩
theorem RefMid.hand {w : World} {q u k : Nat} {ms : List Int} {h : Nat} (hc : RefMid w q u k ms h) (h' : Nat) (hh : h' < ms.length) : RefAt (w.setCell ⟨q, 2, none⟩ (.int .i64 h')) q u k ms h' := by
  obtain ⟨g1, g2, g3, g4, g6, g7, g8⟩ := hc
  exact ⟨g1, g2, g3, g4, hh, by simpa using g6.set 2 (.int .i64 h'), g7.set_other (fun e => g1 e.symm) 2 _, g8.set_other (fun e => g2 e.symm) 2 _⟩
theorem mod_step (h n : Nat) (hh : h < n) : (h + 1) % n = if h + 1 = n then 0 else h + 1 := by
  by_cases e : h + 1 = n
  · rw [if_pos e, e, Nat.mod_self]
  · rw [if_neg e, Nat.mod_eq_of_lt (by omega)]

def RefVicPost (w : World) (q u k : Nat) (zs ms : List Int) (h : Nat) (e : Ending) (w' : World) : Prop :=
  ∃ ms' h' v, e = .returned (.int .i64 v) ∧ VicR zs ms h ms' h' v ∧ RefAt w' q u k ms' h' ∧ Only (RefS q u k) w w'

set_option maxHeartbeats 4000000 in
theorem refvictim_calls (w : World) (q u k : Nat) (ms : List Int) (h : Nat) (a : Option Addr) (len cap : Nat) (zs : List Int) (hc : RefAt w q u k ms h) (hmm : Marks ms) (hz : IntsAt w a len zs) (hzo : ∀ b o, a = some ⟨b, o, none⟩ → 0 < len → ¬ RefS q u k b) (hlen : len ≤ 60) :
    Calls Try.prog 17 #[.pointer (some ⟨q, 0, none⟩), .slice a len cap] w (RefVicPost w q u k zs ms h) := by
  have HZ := Lib.hid hz
  have HZO := Lib.hid hzo
  have HCk := Lib.hid hc
  have HM := Lib.hid hmm
  have hms := hc.2.2.2.1
  have c0 := hc.2.2.2.2.2.1.cell 0
  simp only [List.getElem?_cons_zero] at c0
  clear hz hzo hc hmm
  go_enter Try.func17, Try.ntmps17
  go_wp2_with fail
  go_loopg [5, 6] ms.length (fun g b c wr => ∃ j : Nat, g + j = ms.length ∧ c = .int .i64 j ∧ b = .bool (anyB ms zs j) ∧ w = wr)
  case atStart => exact ⟨0, by omega, rfl, by rw [anyB_zero], rfl⟩
  case round =>
    obtain ⟨j, hj, rfl, rfl, rfl⟩ := hrel
    by_cases hjl : j < ms.length
    · have cj := use_cell (f := fun x => x != 0) HCk.out.2.2.2.2.2.2.1 j hjl
      have hs := Lib.hid (anyB_succ ms zs j)
      have he := Lib.hid (elig_dec ms zs j hjl)
      generalize hv0 : anyB ms zs j = v0 at *
      generalize hv1 : (mk ms j != 0) = v1 at *
      clear hv0 hv1
      cases v0
      · cases v1
        · go_wp2
          go_roundg (gk - 1)
          case measure => omega
          case rel => exact ⟨j + 1, by omega, by go_num, by rw [hs.out, he.out]; rfl, rfl⟩
        · go_wp2_with (go_at_call 22; refine (has_calls _ _ _ _ _ _ HZ.out hlen).mono ?_; rintro e w' ⟨rfl, rfl⟩)
          go_roundg (gk - 1)
          case measure => omega
          case rel => exact ⟨j + 1, by omega, by go_num, by rw [hs.out, he.out]; simp, rfl⟩
      · go_wp2
        go_roundg (gk - 1)
        case measure => omega
        case rel => exact ⟨j + 1, by omega, by go_num, by rw [hs.out]; rfl, rfl⟩
    · obtain rfl : j = ms.length := by omega
      cases hany : anyB ms zs ms.length
      · have HA := Lib.hid hany
        clear hany
        go_wp2_with fail
        refine wp_loop_rounds 1 ?_
        rw [rounds_succ]
        go_wp2
        go_ret
        exact ⟨ms, h, -1, rfl, .inl ⟨HA.out, rfl, rfl, rfl⟩, HCk.out, Only.refl _ _⟩
      · have HA := Lib.hid hany
        obtain ⟨K, r, hr⟩ := vrun_some zs ms h HCk.out.2.2.2.2.1 HM.out hany
        have HR := Lib.hid hr
        clear hany hr
        go_wp2_with fail
        go_loopg [] K (fun kk wv => ∃ (ms' : List Int) (h' : Nat), RefAt wv q u k ms' h' ∧ ms'.length = ms.length ∧ IntsAt wv a len zs ∧ Marks ms' ∧ vrun zs kk ms' h' = some r ∧ Only (RefS q u k) w wv)
        case atStart => exact ⟨ms, h, HCk.out, rfl, HZ.out, HM.out, HR.out, Only.refl _ _⟩
        case round =>
          obtain ⟨ms', h', hck, hml, hza, hmks, hrun, honly⟩ := hrel
          cases gk with
          | zero => simp [vrun] at hrun
          | succ k2 =>
            have hml' := Lib.hid hml
            have hck0 := Lib.hid hck
            have hza0 := Lib.hid hza
            have hmk0 := Lib.hid hmks
            have hrunH := Lib.hid hrun
            have honlyH := Lib.hid honly
            have c0 := hck.2.2.2.2.2.1.cell 0
            have c2 := hck.2.2.2.2.2.1.cell 2
            have f2 := hck.2.2.2.2.2.1.free 2
            simp only [List.getElem?_cons_zero, List.getElem?_cons_succ] at c0 c2
            have hh' := hck.2.2.2.2.1
            rw [hml] at c0 hh'
            clear hml hck hza hmks hrun honly
            go_wp2_with fail
            obtain ⟨W1, hW1⟩ : ∃ W1 : World, W1 = wr.setCell ⟨q, 2, none⟩ (.int .i64 ((h' : Int) + 1)) := ⟨_, rfl⟩
            rw [← hW1]
            have hmid : RefMid W1 q u k ms' (h' + 1) := by rw [hW1]; exact hck0.out.mid (h' + 1)
            have hmid0 := Lib.hid hmid
            have d0 := hmid.2.2.2.2.1.cell 0
            have d2 := hmid.2.2.2.2.1.cell 2
            have fd2 := hmid.2.2.2.2.1.free 2
            simp only [List.getElem?_cons_zero, List.getElem?_cons_succ] at d0 d2
            rw [hml'.out] at d0
            have hon1H := Lib.hid (show Only (RefS q u k) w W1 by rw [hW1]; exact honlyH.out.set (fun _ => .inl rfl) _)
            have hza1 := Lib.hid (show IntsAt W1 a len zs by rw [hW1]; exact hza0.out.only ((Only.refl (RefS q u k) wr).set (fun _ => .inl rfl) _) HZO.out)
            clear hW1 hmid c0 c2 f2 hck0 hza0 honlyH
            have e1 : (((h' + 1 : Nat) : Int)) = (h' : Int) + 1 := by omega
            rw [e1] at d2
            have hmod := mod_step h' ms.length hh'
            have HMod := Lib.hid hmod
            clear e1 hmod
            go_quiet (fail)
            go_upto_if 54 with fail
            go_cut [7] (fun s7 wx => s7 = .int .i64 h' ∧ RefAt wx q u k ms' ((h' + 1) % ms.length) ∧ IntsAt wx a len zs ∧ Only (RefS q u k) w wx)
            case first =>
              by_cases hwrap : h' + 1 = ms.length
              · have hw1 : ((h' : Int) + 1 == (ms.length : Int)) = true := by simp; omega
                go_wp2
                go_meet
                case rel =>
                  refine ⟨rfl, ?_, ((hza1.out).only (only_drewN (Only.refl (RefS q u k) W1) nq) HZO.out).only ((Only.refl (RefS q u k) _).set (fun _ => .inl rfl) _) HZO.out, (only_drewN hon1H.out nq).set (fun _ => .inl rfl) _⟩
                  rw [HMod.out, if_pos hwrap]
                  exact (hmid0.out.drewN nq).hand 0 (by rw [hml'.out]; omega)
              · have hw1 : ((h' : Int) + 1 == (ms.length : Int)) = false := by simp; omega
                go_wp2
                go_meet
                case rel =>
                  refine ⟨rfl, ?_, (hza1.out).only (only_drewN (Only.refl (RefS q u k) W1) nq) HZO.out, only_drewN hon1H.out nq⟩
                  rw [HMod.out, if_neg hwrap]
                  exact (hmid0.out.drewN nq).whole (by rw [hml'.out]; omega)
            case rest =>
              obtain ⟨rfl, hra, hia, hoa⟩ := hcut
              clear d0 d2 fd2 hmid0 hon1H hza1 HMod W1
              have HRa := Lib.hid hra
              have HIa := Lib.hid hia
              have HOa := Lib.hid hoa
              have c0 := hra.2.2.2.2.2.1.cell 0
              have c1 := hra.2.2.2.2.2.1.cell 1
              simp only [List.getElem?_cons_zero, List.getElem?_cons_succ] at c0 c1
              rw [hml'.out] at c0 c1
              have hh2 : h' < ms'.length := by rw [hml'.out]; exact hh'
              have cu := use_cell (f := fun x => x != 0) hra.2.2.2.2.2.2.1 h' hh2
              have ck := use_cell (f := fun x => x == 2) hra.2.2.2.2.2.2.2 h' hh2
              have fk := hra.2.2.2.2.2.2.2.free h'
              clear hra hia hoa hh2
              have hrun := hrunH.out
              unfold vrun at hrun
              rw [hml'.out] at hrun
              by_cases e1 : mk ms' h' = 0
              · rw [if_pos (.inl e1)] at hrun
                have HRn := Lib.hid hrun
                rw [e1] at cu
                simp only [show ((0 : Int) != 0) = false from rfl] at cu
                clear hrun hrunH e1 ck
                go_wp2
                go_roundg k2
                case measure => omega
                case rel => exact ⟨ms', _, HRa.out, hml'.out, HIa.out, hmk0.out, HRn.out, HOa.out⟩
              · have e1' : (mk ms' h' != 0) = true := by simpa using e1
                simp only [e1'] at cu
                by_cases e2 : (h' : Int) ∈ zs
                · rw [if_pos (.inr e2)] at hrun
                  have HRn := Lib.hid hrun
                  have e2' : decide ((h' : Int) ∈ zs) = true := by simpa using e2
                  have HE2 := Lib.hid e2'
                  clear hrun hrunH e1 e1' e2 e2' ck
                  go_wp2_with (go_at_call 22; refine (has_calls _ _ _ _ _ _ HIa.out hlen).mono ?_; rintro e w' ⟨rfl, rfl⟩; rw [HE2.out])
                  go_roundg k2
                  case measure => omega
                  case rel => exact ⟨ms', _, HRa.out, hml'.out, HIa.out, hmk0.out, HRn.out, HOa.out⟩
                · rw [if_neg (by intro h; rcases h with h | h; exact e1 h; exact e2 h)] at hrun
                  have e2' : decide ((h' : Int) ∈ zs) = false := by simpa using e2
                  have HE2 := Lib.hid e2'
                  by_cases e3 : mk ms' h' = 2
                  · rw [if_pos e3] at hrun
                    have HRn := Lib.hid hrun
                    have HE3 := Lib.hid e3
                    rw [e3] at ck
                    simp only [show ((2 : Int) == 2) = true from rfl] at ck
                    clear hrun hrunH e1 e1' e2 e2' e3
                    go_wp2_with (go_at_call 22; refine (has_calls _ _ _ _ _ _ HIa.out hlen).mono ?_; rintro e w' ⟨rfl, rfl⟩; rw [HE2.out])
                    go_roundg k2
                    case measure => omega
                    case rel => exact ⟨ms'.set h' 1, _, HRa.out.plain h' HE3.out, by simpa using hml'.out, HIa.out.only ((Only.refl (RefS q u k) _).set (fun _ => .inr (.inr rfl)) _) HZO.out, hmk0.out.set h' 1 (.inr (.inl rfl)), HRn.out, HOa.out.set (fun _ => .inr (.inr rfl)) _⟩
                  · rw [if_neg e3] at hrun
                    have HRn := Lib.hid hrun
                    have e3' : (mk ms' h' == 2) = false := by simpa using e3
                    simp only [e3'] at ck
                    clear hrun e1 e1' e2 e2' e3 e3'
                    go_wp2_with (go_at_call 22; refine (has_calls _ _ _ _ _ _ HIa.out hlen).mono ?_; rintro e w' ⟨rfl, rfl⟩; rw [HE2.out])
                    go_ret
                    have hr2 := HRn.out
                    cases hr2
                    exact ⟨ms', _, _, rfl, .inr ⟨_, _, HA.out, HR.out, rfl⟩, HRa.out, HOa.out⟩
end Go.Proofs.Ytooooidnchgkaaa
