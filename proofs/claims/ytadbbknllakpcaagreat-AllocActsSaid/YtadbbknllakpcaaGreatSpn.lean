/- The walks through package span: placed, sizes, row. A span by value: its page, pages and class, and its words (bits f). -/
import Derived.Test.YtadbbknllakpcaaGreatBitZ
import Derived.Test.YtadbbknllakpcaaGreatBitM
import Derived.Test.YtadbbknllakpcaaGreatNum
import Derived.Test.YtadbbknllakpcaaGreatClsA
namespace Go.Proofs.YtadbbknllakpcaaGreat
open Go.RowKit
set_option linter.unusedVariables false

/-- A span as a value. -/
def spV (pg ps cl : Int) (A : Option Addr) (len cap : Nat) : Value := .agg #[.int .i64 pg, .int .i64 ps, .int .i64 cl, .slice A len cap]
def I64 (n : Int) : Prop := -9223372036854775808 ≤ n ∧ n ≤ 9223372036854775807
def placedB (p n : Int) : Bool := decide (1 ≤ p ∧ 1 ≤ n ∧ n ≤ 4096 ∧ p ≤ 4096 - n)
theorem placedB_yes {p n : Int} (h : 1 ≤ p ∧ 1 ≤ n ∧ n ≤ 4096 ∧ p ≤ 4096 - n) : placedB p n = true := decide_eq_true h
theorem placedB_no {p n : Int} (h : ¬ (1 ≤ p ∧ 1 ≤ n ∧ n ≤ 4096 ∧ p ≤ 4096 - n)) : placedB p n = false := decide_eq_false h
theorem placed_calls (p n : Int) (w : World) (hp : I64 p) (hn : I64 n) :
    Calls Tryz.prog 54 #[.int .i64 p, .int .i64 n] w fun e w' => e = .returned (.bool (placedB p n)) ∧ w = w' := by
  unfold I64 at hp hn
  by_cases h1 : 1 ≤ p
  · by_cases h2 : 1 ≤ n
    · by_cases h3 : n ≤ 4096
      · by_cases h4 : p ≤ 4096 - n
        · rw [placedB_yes ⟨h1, h2, h3, h4⟩]
          go_enter Tryz.func54, Tryz.ntmps54
          go_wp2
          go_ret
          exact ⟨rfl, rfl⟩
        · rw [placedB_no (fun h => h4 h.2.2.2)]
          have h4' : 4096 - n < p := by omega
          clear h4
          go_enter Tryz.func54, Tryz.ntmps54
          go_wp2
          go_ret
          exact ⟨ret_bool (decide_eq_false (by omega)), rfl⟩
      · rw [placedB_no (fun h => h3 h.2.2.1)]
        have h4' : 4096 < n := by omega
        clear h3
        go_enter Tryz.func54, Tryz.ntmps54
        go_wp2
        go_ret
        exact ⟨rfl, rfl⟩
    · rw [placedB_no (fun h => h2 h.2.1)]
      have h4' : n < 1 := by omega
      clear h2
      go_enter Tryz.func54, Tryz.ntmps54
      go_wp2
      go_ret
      exact ⟨rfl, rfl⟩
  · rw [placedB_no (fun h => h1 h.1)]
    have h4' : p < 1 := by omega
    clear h1
    go_enter Tryz.func54, Tryz.ntmps54
    go_wp2
    go_ret
    exact ⟨rfl, rfl⟩

/-- How many objects there may be, and how many octets each has. -/
def perS (cl : Int) : Int := if cl = 255 then 1 else perL cl
def sizeS (cl ps : Int) : Int := if cl = 255 then wrap64 (ps * 512) else sizeL cl
theorem perS_bd (cl : Int) : 0 ≤ perS cl ∧ perS cl ≤ 32 := by
  unfold perS
  split
  · omega
  · by_cases h : sizeL cl = 0
    · unfold perL; rw [if_pos h]; omega
    · have := cls_facts cl h; omega
set_option maxHeartbeats 1000000 in
theorem sizes_calls (pg ps cl : Int) (A : Option Addr) (len cap : Nat) (w : World) (h1 : I64 pg) (h2 : I64 ps) (h3 : I64 cl) :
    Calls Tryz.prog 63 #[spV pg ps cl A len cap] w fun e w' => e = .returned (.tuple #[.int .i64 (perS cl), .int .i64 (sizeS cl ps)]) ∧ Below w.heap.size w w' := by
  unfold I64 at h1 h2 h3
  unfold spV
  by_cases hc : cl = 255
  · subst hc
    have e1 : perS 255 = 1 := rfl
    have e2 : sizeS 255 ps = wrap64 (ps * 512) := rfl
    rw [e1, e2]
    go_enter Tryz.func63, Tryz.ntmps63
    go_wp2_with fail
    go_quiet (fail)
    go_wp2
    go_ret2
    exact ⟨rfl, below_drewN ((Below.refl _ _).alloc (Nat.le_refl _) _) _⟩
  · have hcb : (cl == 255) = false := by simpa using hc
    have e1 : perS cl = perL cl := if_neg hc
    have e2 : sizeS cl ps = sizeL cl := if_neg hc
    rw [e1, e2]
    clear hc e1 e2
    go_enter Tryz.func63, Tryz.ntmps63
    go_wp2_with fail
    go_quiet (first | (go_at_call 65; exact Calls.quiet_of_same ((per_calls cl _ h3.1 h3.2).mono fun e w' ⟨he, hw⟩ => ⟨he, hw.symm⟩)) | (go_at_call 45; exact Calls.quiet_of_same ((size_calls cl _ h3.1 h3.2).mono fun e w' ⟨he, hw⟩ => ⟨he, hw.symm⟩)))
    go_wp2
    go_ret2
    exact ⟨rfl, below_drewN ((Below.refl _ _).alloc (Nat.le_refl _) _) _⟩
end Go.Proofs.YtadbbknllakpcaaGreat
