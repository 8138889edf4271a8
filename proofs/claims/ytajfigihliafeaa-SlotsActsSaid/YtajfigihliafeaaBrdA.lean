/- The document's example for layer 9. -/
import Derived.Test.YtajfigihliafeaaBrdN
namespace Go.Proofs.Ytajfigihliafeaa
open Go.RowKit
set_option linter.unusedVariables false

theorem find_40 : FindR (fun _ => false) 100 40 (0 : Nat) := .inr ⟨0, rfl, by omega, fun x h1 h2 => rfl, fun y hy => by omega⟩
theorem pick_40 : PickS 100 (fillF (fun _ => false) 0 40 true) 40 := by
  have e0 : fr 100 (fillF (fun _ => false) 0 40 true) 0 = 24 := by decide +kernel
  have e1 : fr 100 (fillF (fun _ => false) 0 40 true) 1 = 36 := by decide +kernel
  refine ⟨by omega, by decide, fun i h1 h2 => by unfold fillF; rw [if_pos (by omega)], fun k hk hp => ?_⟩
  have hk2 : k < 2 := hk
  have : k = 0 ∨ k = 1 := by omega
  show fr 100 _ 0 ≤ _ ∧ (k < 0 → _)
  rcases this with rfl | rfl
  · exact ⟨Nat.le_refl _, fun h => by omega⟩
  · rw [e0, e1]; exact ⟨by omega, fun h => by omega⟩
theorem count_41 : cntF (put (fillF (fun _ => false) 0 40 true) 40 true) 100 = 41 := by decide +kernel
theorem FindR.not_none {f : Nat → Bool} {n k p : Nat} (h : FindR f n k (-1)) (h' : FindR f n k (p : Int)) : False := by
  have := h.one h'
  omega

set_option maxRecDepth 8000 in
set_option maxHeartbeats 1000000 in
theorem awake_calls09 (w : World) : Calls Try.prog 7 #[] w fun e w' => e = .returned (.bool true) ∧ Below w.heap.size w w' := by
  go_enter Try.func7, Try.ntmps7
  go_wp2_with fail
  refine (newb_calls _ 100 none 0 0 [] (by omega) (by omega) (IntsAt.nil _) (by omega)).mono ?_
  rintro e w1 ⟨hb1, ⟨rfl, hx⟩ | ⟨b, r, a, c, g, cap, sp, f, rfl, hf, hbd, h1, h2, h3, h4, h5⟩⟩
  · cases hx
  · injection hf with hf
    subst hf
    have HB1 := Lib.hid hb1
    have HBd := Lib.hid hbd
    have HS := Lib.hid (And.intro h2 (And.intro h3 (And.intro h4 h5)))
    clear hb1 hbd h1 h2 h3 h4 h5
    go_wp2_with fail
    refine (run_calls _ b r a c g 100 cap sp _ 40 HBd.out (by omega) (by omega)).mono ?_
    rintro e w2 (⟨rfl, hno, rfl⟩ | ⟨p, rfl, hp, hb2, ho2⟩)
    · exact (hno.not_none find_40).elim
    · obtain rfl : p = 0 := by have := hp.one find_40; omega
      have HB2 := Lib.hid hb2
      have HL2 := Lib.hid (bel_only HB1.out ho2 (Nat.le_refl _) (fun i => BrdS_ge HS.out.1 HS.out.2.1 HS.out.2.2.1 HS.out.2.2.2))
      clear hp hb2 ho2
      go_wp2_with fail
      refine (take_calls _ b r a c g 100 cap sp _ HB2.out).mono ?_
      rintro e w3 (⟨rfl, hno, rfl⟩ | ⟨s, rfl, hs, hb3, ho3⟩)
      · exact absurd (fr_none hno 40 (by omega)) (by decide)
      · obtain rfl := hs.one pick_40
        have HB3 := Lib.hid hb3
        have HL3 := Lib.hid (bel_only HL2.out ho3 (Nat.le_refl _) (fun i => BrdS_ge HS.out.1 HS.out.2.1 HS.out.2.2.1 HS.out.2.2.2))
        clear hs hb3 ho3
        go_wp2_with fail
        refine (free_calls _ b r a c g 100 cap sp _ HB3.out).mono ?_
        rintro e w4 ⟨rfl, q, rfl⟩
        rw [count_41]
        go_wp2
        go_ret
        exact ⟨rfl, below_drewN HL3.out q⟩
end Go.Proofs.Ytajfigihliafeaa
