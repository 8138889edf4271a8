/- The walks of Words, and of the document's Same. -/
import Derived.Test.YtadbbknllakpcaaBitD
namespace Go.Proofs.Ytadbbknllakpcaa
open Go.RowKit
set_option linter.unusedVariables false

/-- The words of f as cells. -/
def wdV (n : Nat) (f : Nat → Bool) : List Value := fnV n fun k => .int .u64 (wd f k)
theorem wdV_length (n : Nat) (f : Nat → Bool) : (wdV n f).length = n := fnV_length _ _
theorem wdV_at (n : Nat) (f : Nat → Bool) (i : Nat) (h : i < n) : (wdV n f)[i]? = some (.int .u64 (wd f i)) := fnV_at _ _ _ h
theorem wdV_one (n : Nat) (f : Nat → Bool) : ∀ u ∈ wdV n f, u.oneCell' = true := fun v hv => by obtain ⟨k, _, rfl⟩ := List.mem_map.1 hv; rfl

theorem words_row (w : World) (r a c n : Nat) (f g : Nat → Bool) (h : RowMid w r a c n f g) :
    Calls Try.prog 63 #[.pointer (some ⟨r, 0, none⟩)] w fun e w' => ∃ v, e = .returned v ∧ w'.ownsRow w.heap.size 60 1 v (wn n) (wdV (wn n) f) ∧ Below w.heap.size w w' := by
  have c1 := h.2.2.2.1.cell 1
  have hn := h.2.1
  have HR := Lib.hid (RdAt.of_blk (n := wn n) h.2.2.2.2.1)
  simp only [List.getElem?_cons_zero, List.getElem?_cons_succ] at c1
  have hW : wn n ≤ 65536 := by unfold wn; omega
  clear h
  go_enter Try.func63, Try.ntmps63
  go_wp2_with fail
  refine (clone_u64 _ _ (wn n) (wn n) (wdV (wn n) f) (by rw [wdV_length, Nat.mul_one]) HR.out (wdV_one _ _) (by omega)).mono ?_
  rintro e w1 ⟨v, rfl, hown, _, hb⟩
  have HO := Lib.hid hown
  have HB := Lib.hid hb
  clear hown hb
  go_wp2
  go_ret
  exact ⟨_, rfl, HO.out, HB.out⟩

set_option maxHeartbeats 1000000 in
theorem same8_yes (w : World) (A B : Option Addr) (n ca cb : Nat) (f : Nat → Bool) (hA : RdAt w A n (wdV n f)) (hB : RdAt w B n (wdV n f)) (hn : n ≤ 9223372036854775807) :
    Calls Try.prog 51 #[.slice A n ca, .slice B n cb] w fun e w' => e = .returned (.bool true) ∧ Below w.heap.size w w' := by
  have HA := Lib.hid hA
  have HB := Lib.hid hB
  clear hA hB
  have hne : ((n : Int) != (n : Int)) = false := by simp
  go_enter Try.func51, Try.ntmps51
  go_wp2_with fail
  go_loopg [5] n (fun q i wr => ∃ j : Nat, q + j = n ∧ i = .int .i64 j ∧ Below w.heap.size w wr)
  case atStart => exact ⟨0, by omega, rfl, Below.refl _ _⟩
  case round =>
    obtain ⟨j, hj, rfl, hb⟩ := hrel
    have HBl := Lib.hid hb
    by_cases hlt : j < n
    · obtain ⟨b1, o1, rfl, hl1, hc1⟩ := (HA.out.below hb).resolve_left (by omega)
      obtain ⟨b2, o2, rfl, hl2, hc2⟩ := (HB.out.below hb).resolve_left (by omega)
      have x1 := hc1 j _ (wdV_at n f j hlt)
      have x2 := hc2 j _ (wdV_at n f j hlt)
      have hx : ((wd f j : Int) != (wd f j : Int)) = false := by simp
      clear hb hc1 hc2
      go_wp2_with fail
      go_quiet (fail)
      go_wp2
      go_roundg (gk - 1)
      case measure => omega
      case rel => exact ⟨j + 1, by omega, by go_num, below_drewN HBl.out _⟩
    · obtain rfl : j = n := by omega
      clear hb
      go_wp2
      go_ret
      exact ⟨rfl, HBl.out⟩
end Go.Proofs.Ytadbbknllakpcaa
