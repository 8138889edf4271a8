/- SpanOctets: plain facts: a span's octets are its own again. -/
import Derived.Test.YtakcdkcikopoiaaSpOP
import Derived.Test.YtakcdkcikopoiaaSpnD
namespace Go.Proofs.Ytakcdkcikopoiaa
open Go.RowKit
set_option linter.unusedVariables false

theorem layL_bytes (n : Int) (m : Nat) : Bytes (oc.layL n m) := oc.layL_bd n m
theorem Bytes.app {a b : List Int} (h : Bytes a) (k : Bytes b) : Bytes (a ++ b) := fun x hx => by
  rcases List.mem_append.1 hx with h1 | h1
  · exact h x h1
  · exact k x h1
theorem putO_bytes (pg ps cl : Int) (f : Nat → Bool) : Bytes (putO pg ps cl f) := (((layL_bytes _ _).app (layL_bytes _ _)).app (layL_bytes _ _)).app (layL_bytes _ _)
theorem putO_len (pg ps cl : Int) (f : Nat → Bool) : (putO pg ps cl f).length = 13 := by simp [putO, oc.layL_length]
theorem oct_lay_small (n : Int) (m : Nat) (h0 : 0 ≤ n) (h : n < 2 ^ (8 * m)) (hm : m ≤ 7) : oc.oct (oc.layL n m) = n := by
  rw [oc.oct_lay]
  have h2 : (2 : Int) ^ (8 * m) ≤ 18446744073709551616 := by
    have : ∀ k : Fin 8, (2 : Int) ^ (8 * k.val) ≤ 18446744073709551616 := by decide
    exact this ⟨m, by omega⟩
  have hU : (oc.U n : Int) = n := by rw [oc.U_cast, Int.emod_eq_of_lt h0 (by omega)]
  have hlt : oc.U n < 2 ^ (8 * m) := by
    have e : ((2 ^ (8 * m) : Nat) : Int) = 2 ^ (8 * m) := by simp
    omega
  rw [Nat.mod_eq_of_lt hlt, hU]
theorem cl_back {pg ps cl : Int} {f : Nat → Bool} (zs : List Int) (h : 0 ≤ cl ∧ cl ≤ 255) : clO (putO pg ps cl f ++ zs) = cl := by
  unfold clO putO
  rw [List.append_assoc, List.append_assoc, List.append_assoc, List.take_left' (oc.layL_length cl 1)]
  exact oct_lay_small cl 1 h.1 (by omega) (by omega)
theorem pg_back {pg ps cl : Int} {f : Nat → Bool} (zs : List Int) (h : 0 ≤ pg ∧ pg ≤ 65535) : pgO (putO pg ps cl f ++ zs) = pg := by
  unfold pgO putO
  rw [List.append_assoc, List.append_assoc, List.append_assoc, List.drop_left' (oc.layL_length cl 1), List.take_left' (oc.layL_length pg 2)]
  exact oct_lay_small pg 2 h.1 (by omega) (by omega)
theorem ps_back {pg ps cl : Int} {f : Nat → Bool} (zs : List Int) (h : 0 ≤ ps ∧ ps ≤ 65535) : psO (putO pg ps cl f ++ zs) = ps := by
  unfold psO putO
  rw [List.append_assoc, List.append_assoc, List.drop_left' (show (oc.layL cl 1 ++ oc.layL pg 2).length = 3 by simp [oc.layL_length]), List.take_left' (oc.layL_length ps 2)]
  exact oct_lay_small ps 2 h.1 (by omega) (by omega)
theorem w_back {pg ps cl : Int} {f : Nat → Bool} (zs : List Int) : wO (putO pg ps cl f ++ zs) = (wd f 0 : Nat) := by
  unfold wO putO
  rw [List.append_assoc, List.drop_left' (show (oc.layL cl 1 ++ oc.layL pg 2 ++ oc.layL ps 2).length = 5 by simp [oc.layL_length]), List.take_left' (oc.layL_length _ 8), oc.oct_lay]
  have h := wd_lt f 0
  have e : oc.U (wrap64 ((wd f 0 : Nat) : Int)) = wd f 0 := by rw [oc.U_wrap64, oc.U_of_nat _ h]
  rw [e, Nat.mod_eq_of_lt h]
theorem f_back {pg ps cl : Int} {f : Nat → Bool} (zs : List Int) (hf : ∀ i, 64 * 1 ≤ i → f i = false) : fO (putO pg ps cl f ++ zs) = f := by
  funext i
  unfold fO
  rw [w_back]
  unfold fOf
  by_cases h : i < 64
  · rw [Nat.div_eq_of_lt h, Nat.mod_eq_of_lt h]
    simp only [List.getElem?_cons_zero, Option.getD_some, Int.toNat_natCast]
    rw [wd_testBit]
    simp [h]
  · rw [hf i (by omega)]
    have : 1 ≤ i / 64 := by omega
    rw [List.getElem?_eq_none (by simpa using this)]
    simp
theorem ok_back {pg ps cl : Int} {f : Nat → Bool} (zs : List Int) (hg : Good pg ps cl 1 f) (hc : 0 < cntF f (perN cl)) (hf : ∀ i, 64 * 1 ≤ i → f i = false) : okG (putO pg ps cl f ++ zs) := by
  have h1 := hg.p1
  have h2 := hg.p2
  have h3 := hg.p3
  have hs := hg.size
  refine ⟨by rw [List.length_append, putO_len]; omega, ?_, ?_⟩
  · rw [cl_back zs hg.cls]; omega
  · rw [cl_back zs hg.cls, pg_back zs (by omega), ps_back zs (by omega), f_back zs hf]
    exact hg.right hc
theorem good_one {pg ps cl : Int} {len : Nat} {f : Nat → Bool} (hg : Good pg ps cl len f) : len = 1 := by
  have h := hg.live.1
  have hs := hg.size
  rw [h]
  unfold wn
  omega
end Go.Proofs.Ytakcdkcikopoiaa
