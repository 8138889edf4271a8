/- The document's Ints: are two lists of numbers the same? -/
import Derived.Test.YtajfigihliafeaaMem
import Derived.Test.YtajfigihliafeaaBitW
namespace Go.Proofs.Ytajfigihliafeaa
open Go.RowKit
set_option linter.unusedVariables false

theorem ints_calls (w : World) (a : Option Addr) (len cap : Nat) (xs : List Int) (b : Option Addr) (len2 cap2 : Nat) (ys : List Int) (hx : IntsAt w a len xs) (hy : IntsAt w b len2 ys) (hlen : len ≤ 100000) (hlen2 : len2 ≤ 100000) :
    Calls Try.prog 20 #[.slice a len cap, .slice b len2 cap2] w fun e w' => e = .returned (.bool (decide (xs = ys))) ∧ Below w.heap.size w w' := by
  have HX := Lib.hid hx
  have HY := Lib.hid hy
  clear hx hy
  by_cases hl : len = len2
  · subst hl
    go_enter Try.func20, Try.ntmps20
    go_wp2_with fail
    go_loopg [5] len (fun g i wr => ∃ y : Nat, g + y = len ∧ i = .int .i64 y ∧ (∀ j, j < y → xs[j]?.getD 0 = ys[j]?.getD 0) ∧ Below w.heap.size w wr)
    case atStart => exact ⟨0, by omega, rfl, fun j hj => by omega, Below.refl _ _⟩
    case round =>
      obtain ⟨y, hy, rfl, hn, hb⟩ := hrel
      have HN := Lib.hid hn
      have HB := Lib.hid hb
      by_cases hlt : y < len
      · obtain ⟨b1, o1, ha1, hb1, hcell1⟩ := (HX.out.below hb).2.2.resolve_left (by omega)
        obtain ⟨b2, o2, ha2, hb2, hcell2⟩ := (HY.out.below hb).2.2.resolve_left (by omega)
        have hc1 := hcell1 y hlt
        have hc2 := hcell2 y hlt
        have hnx : xs[y]?.getD 0 = ys[y]?.getD 0 → ∀ j, j < y + 1 → xs[j]?.getD 0 = ys[j]?.getD 0 := fun e j hj => by
          rcases Nat.lt_or_ge j y with h | h
          · exact HN.out j h
          · obtain rfl : j = y := by omega
            exact e
        have hno : xs[y]?.getD 0 ≠ ys[y]?.getD 0 → xs ≠ ys := fun e e2 => e (by rw [e2])
        have HNX := Lib.hid hnx
        have HNO := Lib.hid hno
        generalize xs[y]?.getD 0 = z1 at *
        generalize ys[y]?.getD 0 = z2 at *
        clear hcell1 hcell2 hb1 hb2 hb hn hnx hno
        subst ha1 ha2
        by_cases he : z1 = z2
        · subst he
          have HNX2 := Lib.hid (HNX.out rfl)
          go_wp2_with fail
          go_quiet (fail)
          go_wp2
          go_roundg (gk - 1)
          case measure => omega
          case rel => exact ⟨y + 1, by omega, by go_num, HNX2.out, (below_drewN HB.out _)⟩
        · have he' : (z1 != z2) = true := by simpa using he
          have HNO2 := Lib.hid (HNO.out he)
          clear he
          go_wp2_with fail
          go_quiet (fail)
          go_wp2
          go_ret
          exact ⟨ret_bool (decide_eq_false HNO2.out).symm, (below_drewN HB.out _)⟩
      · obtain rfl : len = y := by omega
        have heq : xs = ys := by
          have e1 := HX.out.1
          have e2 := HY.out.1
          apply List.ext_getElem (by omega)
          intro j h1 h2
          have := HN.out j (by omega)
          simpa [h1, h2] using this
        have HE := Lib.hid heq
        clear hn hb heq
        go_wp2
        go_ret
        exact ⟨ret_bool (decide_eq_true HE.out).symm, HB.out⟩
  · have hne : xs ≠ ys := fun e => hl (by have e1 := HX.out.1; have e2 := HY.out.1; rw [e] at e1; omega)
    have HN := Lib.hid hne
    have hl' : ((len : Int) != (len2 : Int)) = true := by simp; omega
    clear hne
    go_enter Try.func20, Try.ntmps20
    go_wp2
    go_ret
    exact ⟨ret_bool (decide_eq_false HN.out).symm, Below.refl _ _⟩

end Go.Proofs.Ytajfigihliafeaa
