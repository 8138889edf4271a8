/- Package clock's Places; small contracts of the document's packages: a number in a list, two lists alike. -/
import Derived.Test.YtooooidnchgkaaaClkA
import Derived.BigQuiet
namespace Go.Proofs.Ytooooidnchgkaaa
open Go.RowKit
set_option linter.unusedVariables false

theorem below_drewN {B : Nat} {a w : World} (h : Below B a w) (n : Nat) : Below B a (w.drewN n) := ⟨h.os, h.tape, h.output, h.size, h.block⟩
theorem mem_take_next (l : List Int) (y : Nat) (hy : y < l.length) (x : Int) (h : x ∉ l.take y) (hne : l[y]?.getD 0 ≠ x) : x ∉ l.take (y + 1) := by
  rw [List.take_succ_eq_append_getElem hy]
  have e : l[y]?.getD 0 = l[y] := by simp [hy]
  rw [e] at hne
  simp only [List.mem_append, List.mem_singleton, not_or]
  exact ⟨h, fun e => hne e.symm⟩

theorem has_calls (w : World) (a : Option Addr) (len cap : Nat) (zs : List Int) (x : Int) (hz : IntsAt w a len zs) (hlen : len ≤ 60) :
    Calls Try.prog 22 #[.slice a len cap, .int .i64 x] w fun e w' => e = .returned (.bool (decide (x ∈ zs))) ∧ w = w' := by
  have HZ := Lib.hid hz
  clear hz
  go_enter Try.func22, Try.ntmps22
  go_wp2_with fail
  go_loopg [5] len (fun g i wr => ∃ y : Nat, g + y = len ∧ i = .int .i64 y ∧ x ∉ zs.take y ∧ w = wr)
  case atStart => exact ⟨0, by omega, rfl, by simp, rfl⟩
  case round =>
    obtain ⟨y, hy, rfl, hn, rfl⟩ := hrel
    have HN := Lib.hid hn
    clear hn
    by_cases hlt : y < len
    · obtain ⟨b, o, ha, hb, hcell⟩ := (HZ.out).2.2.resolve_left (by omega)
      have hc := hcell y hlt
      have hlz := HZ.out.1
      have hnx := Lib.hid (mem_take_next zs y (by omega) x HN.out)
      have hyes : zs[y]?.getD 0 = x → x ∈ zs := fun e => by
        have : zs[y]?.getD 0 = zs[y]'(by omega) := by simp [show y < zs.length by omega]
        rw [← e, this]; exact List.getElem_mem _
      have HY := Lib.hid hyes
      generalize zs[y]?.getD 0 = z at *
      clear hcell hb hlz hyes
      subst ha
      by_cases he : z = x
      · subst he
        go_wp2
        go_ret
        exact ⟨ret_bool (decide_eq_true (HY.out trivial)).symm, rfl⟩
      · have he' : (z == x) = false := by simpa using he
        have hnx2 := Lib.hid (hnx.out he)
        clear he
        go_wp2
        go_roundg (gk - 1)
        case measure => omega
        case rel => exact ⟨y + 1, by omega, by go_num, hnx2.out, rfl⟩
    · obtain rfl : len = y := by omega
      have hno := HN.out
      rw [List.take_of_length_le (by have := HZ.out.1; omega)] at hno
      have HN2 := Lib.hid hno
      clear hno
      go_wp2
      go_ret
      exact ⟨ret_bool (decide_eq_false HN2.out).symm, rfl⟩

theorem ints_calls (w : World) (a : Option Addr) (len cap : Nat) (xs : List Int) (b : Option Addr) (len2 cap2 : Nat) (ys : List Int) (hx : IntsAt w a len xs) (hy : IntsAt w b len2 ys) (hlen : len ≤ 100000) (hlen2 : len2 ≤ 100000) :
    Calls Try.prog 18 #[.slice a len cap, .slice b len2 cap2] w fun e w' => e = .returned (.bool (decide (xs = ys))) ∧ Below w.heap.size w w' := by
  have HX := Lib.hid hx
  have HY := Lib.hid hy
  clear hx hy
  by_cases hl : len = len2
  · subst hl
    go_enter Try.func18, Try.ntmps18
    go_wp2_with fail
    go_loopg [5] len (fun g i wr => ∃ y : Nat, g + y = len ∧ i = .int .i64 y ∧ (∀ j, j < y → xs[j]?.getD 0 = ys[j]?.getD 0) ∧ Below w.heap.size w wr)
    case atStart => exact ⟨0, by omega, rfl, fun j hj => by omega, Below.refl _ _⟩
    case round =>
      obtain ⟨y, hy, rfl, hn, hb⟩ := hrel
      have HN := Lib.hid hn
      have HB := Lib.hid hb
      by_cases hlt : y < len
      · obtain ⟨b1, o1, ha1, hb1, hcell1⟩ := (HX.out.below hb).2.2.resolve_left (by omega)
        obtain ⟨b2, o2, ha2, hb2, hcell2⟩ := (HY.out.below hb).2.2.resolve_left (by omega)
        have hc1 := hcell1 y hlt
        have hc2 := hcell2 y hlt
        have hnx : xs[y]?.getD 0 = ys[y]?.getD 0 → ∀ j, j < y + 1 → xs[j]?.getD 0 = ys[j]?.getD 0 := fun e j hj => by
          rcases Nat.lt_or_ge j y with h | h
          · exact HN.out j h
          · obtain rfl : j = y := by omega
            exact e
        have hno : xs[y]?.getD 0 ≠ ys[y]?.getD 0 → xs ≠ ys := fun e e2 => e (by rw [e2])
        have HNX := Lib.hid hnx
        have HNO := Lib.hid hno
        generalize xs[y]?.getD 0 = z1 at *
        generalize ys[y]?.getD 0 = z2 at *
        clear hcell1 hcell2 hb1 hb2 hb hn hnx hno
        subst ha1 ha2
        by_cases he : z1 = z2
        · subst he
          have HNX2 := Lib.hid (HNX.out rfl)
          go_wp2_with fail
          go_quiet (fail)
          go_wp2
          go_roundg (gk - 1)
          case measure => omega
          case rel => exact ⟨y + 1, by omega, by go_num, HNX2.out, (below_drewN HB.out _)⟩
        · have he' : (z1 != z2) = true := by simpa using he
          have HNO2 := Lib.hid (HNO.out he)
          clear he
          go_wp2_with fail
          go_quiet (fail)
          go_wp2
          go_ret
          exact ⟨ret_bool (decide_eq_false HNO2.out).symm, (below_drewN HB.out _)⟩
      · obtain rfl : len = y := by omega
        have heq : xs = ys := by
          have e1 := HX.out.1
          have e2 := HY.out.1
          apply List.ext_getElem (by omega)
          intro j h1 h2
          have := HN.out j (by omega)
          simpa [h1, h2] using this
        have HE := Lib.hid heq
        clear hn hb heq
        go_wp2
        go_ret
        exact ⟨ret_bool (decide_eq_true HE.out).symm, HB.out⟩
  · have hne : xs ≠ ys := fun e => hl (by have e1 := HX.out.1; have e2 := HY.out.1; rw [e] at e1; omega)
    have HN := Lib.hid hne
    have hl' : ((len : Int) != (len2 : Int)) = true := by simp; omega
    clear hne
    go_enter Try.func18, Try.ntmps18
    go_wp2
    go_ret
    exact ⟨ret_bool (decide_eq_false HN.out).symm, Below.refl _ _⟩

theorem clip_nil (w : World) :
    Calls Try.prog 23 #[.slice none 0 0] w fun e w' => e = .returned (.slice none 0 0) ∧ w = w' := by
  go_enter Try.func23, Try.ntmps23
  go_wp2
  go_ret
  exact ⟨rfl, rfl⟩
theorem clip_some (w : World) (g n cap : Nat) (hn : n ≤ cap) (hm : cap ≤ maxLen) :
    Calls Try.prog 23 #[.slice (some ⟨g, 0, none⟩) n cap] w fun e w' => e = .returned (.slice (some ⟨g, 0, none⟩) n n) ∧ w = w' := by
  unfold maxLen at hm
  go_enter Try.func23, Try.ntmps23
  go_wp2
  go_ret
  exact ⟨rfl, rfl⟩
end Go.Proofs.Ytooooidnchgkaaa
