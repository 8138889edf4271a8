/- The walk of runs.Runs. -/
import Derived.Test.YtfacpamepkkhgaaRunH
import Derived.Test.YtfacpamepkkhgaaClRow
namespace Go.Proofs.Ytfacpamepkkhgaa
open Go.RowKit
set_option linter.unusedVariables false

theorem LandAt.rd {w : World} {L g cap : Nat} {l : List (Nat × Nat)} (h : LandAt w L g cap l) : RdAt w (some ⟨g, 0, none⟩) l.length (rowsV l) := by
  obtain ⟨_, _, cur, hs, ht⟩ := h
  refine .inr ⟨g, 0, rfl, hs.1.lt, fun i u hu => ?_⟩
  have hil := (List.getElem?_eq_some_iff.1 hu).1
  rw [rowsV_length] at hil
  rw [← ht, List.getElem?_take_of_lt hil] at hu
  rw [Nat.zero_add]
  exact (hs.1.cell _).trans hu
theorem runs16_calls (w : World) (L g cap : Nat) (l : List (Nat × Nat)) (hL : LandAt w L g cap l) (hc : Canon l) :
    Calls Try.prog 11 #[.pointer (some ⟨L, 0, none⟩)] w fun e w' => ∃ v, e = .returned v ∧ w'.ownsRow w.heap.size 35 2 v l.length (rowsV l) ∧ Below w.heap.size w w' := by
  have hl := hc.len
  have HL := Lib.hid hL
  have c0 := hL.head
  clear hL
  go_enter Try.func11, Try.ntmps11
  go_wp2_with fail
  refine (clone_Row _ _ _ cap (rowsV l) (rowsV_length l) HL.out.rd (rowsV_one l) (by omega)).mono ?_
  rintro e w' ⟨v, rfl, hown, _, hb⟩
  have HO := Lib.hid hown
  have HB := Lib.hid hb
  clear hown hb
  go_wp2
  go_ret
  exact ⟨_, rfl, HO.out, HB.out⟩
end Go.Proofs.Ytfacpamepkkhgaa
