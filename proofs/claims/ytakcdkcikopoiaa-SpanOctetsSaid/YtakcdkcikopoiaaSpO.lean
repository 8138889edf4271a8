/- SpanOctets: plain mathematics: a span's fields out of octets. -/
import Derived.Test.YtakcdkcikopoiaaPackR
import Derived.Test.YtakcdkcikopoiaaSpnB
import Derived.Test.YtakcdkcikopoiaaSpnE
import Derived.Test.YtakcdkcikopoiaaSpIn
import Derived.Test.YtakcdkcikopoiaaWordsIn
namespace Go.Proofs.Ytakcdkcikopoiaa
open Go.RowKit
set_option linter.unusedVariables false

def Bytes (zs : List Int) : Prop := ∀ b ∈ zs, 0 ≤ b ∧ b ≤ 255
theorem Bytes.take {zs : List Int} (h : Bytes zs) (n : Nat) : Bytes (zs.take n) := fun b hb => h b (List.mem_of_mem_take hb)
theorem Bytes.drop {zs : List Int} (h : Bytes zs) (n : Nat) : Bytes (zs.drop n) := fun b hb => h b (List.mem_of_mem_drop hb)
theorem Bytes.tk {st : Option (List Int)} (h : Bytes (st.getD [])) (n : Nat) : Bytes (tkL st n).1 ∧ Bytes ((tkL st n).2.getD []) := by
  unfold tkL
  cases st with
  | none => exact ⟨(fun b hb => by cases hb), (fun b hb => by cases hb)⟩
  | some zs =>
    simp only
    split
    · exact ⟨Bytes.take h n, Bytes.drop h n⟩
    · exact ⟨(fun b hb => by cases hb), (fun b hb => by cases hb)⟩
theorem oct_rng {l : List Int} (h : Bytes l) (n : Nat) (hl : l.length ≤ n) (hn : n ≤ 2) : 0 ≤ oc.oct l ∧ oc.oct l ≤ 65535 ∧ (n = 1 → oc.oct l ≤ 255) := by
  have h1 := oc.oct_bd l h
  have : l.length = 0 ∨ l.length = 1 ∨ l.length = 2 := by omega
  rcases this with e | e | e
  · rw [e] at h1; simp at h1; omega
  · rw [e] at h1; simp at h1; omega
  · rw [e] at h1; simp at h1; omega
def clO (zs : List Int) : Int := oc.oct (zs.take 1)
def pgO (zs : List Int) : Int := oc.oct ((zs.drop 1).take 2)
def psO (zs : List Int) : Int := oc.oct ((zs.drop 3).take 2)
def wO (zs : List Int) : Int := oc.oct ((zs.drop 5).take 8)
theorem clO_rng {zs : List Int} (h : Bytes zs) : 0 ≤ clO zs ∧ clO zs ≤ 255 := by
  have := oct_rng (h.take 1) 1 (by simp; omega) (by omega)
  exact ⟨this.1, this.2.2 rfl⟩
theorem pgO_rng {zs : List Int} (h : Bytes zs) : 0 ≤ pgO zs ∧ pgO zs ≤ 65535 := by
  have := oct_rng ((h.drop 1).take 2) 2 (by simp; omega) (by omega)
  exact ⟨this.1, this.2.1⟩
theorem psO_rng {zs : List Int} (h : Bytes zs) : 0 ≤ psO zs ∧ psO zs ≤ 65535 := by
  have := oct_rng ((h.drop 3).take 2) 2 (by simp; omega) (by omega)
  exact ⟨this.1, this.2.1⟩
theorem wO_rng {zs : List Int} (h : Bytes zs) : 0 ≤ wO zs ∧ wO zs < 18446744073709551616 := by
  have h1 := oc.oct_bd _ ((h.drop 5).take 8)
  refine ⟨h1.1, Int.lt_of_lt_of_le h1.2 ?_⟩
  have hl : ((zs.drop 5).take 8).length ≤ 8 := by simp; omega
  generalize ((zs.drop 5).take 8).length = k at hl
  have : ∀ k : Fin 9, (256 : Int) ^ k.val ≤ 18446744073709551616 := by decide
  exact this ⟨k, by omega⟩
def fO (zs : List Int) : Nat → Bool := fOf [wO zs]
theorem fO_wd {zs : List Int} (h : Bytes zs) : [Value.int .u64 (wO zs)] = wdV 1 (fO zs) := by
  have hr := wO_rng h
  have := fOf_cells [wO zs] (fun n hn => by obtain rfl := List.mem_singleton.1 hn; omega)
  exact this
theorem fO_out (zs : List Int) (i : Nat) (h : 64 * 1 ≤ i) : fO zs i = false := fOf_out _ i (by simpa using h)
def okG (zs : List Int) : Prop := 13 ≤ zs.length ∧ perN (clO zs) ≠ 0 ∧ rightP (pgO zs) (psO zs) (clO zs) 1 (fO zs)
def xp (b : Bool) (x : Int) : Int := if b then x else 0
def xl (b : Bool) : Nat := if b then 1 else 0
def xf (b : Bool) (f : Nat → Bool) (i : Nat) : Bool := b && f i
theorem xf_no (w : World) (f : Nat → Bool) : WordsAt w none (xl false) (xf false f) := ⟨.inl rfl, fun i hi => rfl, by unfold xl; simp⟩
/-- What Get answers. -/
def GetR (zs : List Int) (w : World) (e : Ending) (w' : World) : Prop :=
  ∃ (b : Bool) (A : Option Addr) (cap : Nat), (b = true ↔ okG zs) ∧ e = .returned (.tuple #[.agg #[.int .i64 (xp b (pgO zs)), .int .i64 (xp b (psO zs)), .int .i64 (xp b (clO zs)), .slice A (xl b) cap], .int .i64 (xp b 13)]) ∧ WordsAt w' A (xl b) (xf b (fO zs)) ∧ Below w.heap.size w w'
theorem get_no {zs : List Int} {w w' : World} {e : Ending} (h : ¬ okG zs) (he : e = .returned (.tuple #[.agg #[.int .i64 0, .int .i64 0, .int .i64 0, .slice none 0 0], .int .i64 0])) (hb : Below w.heap.size w w') : GetR zs w e w' :=
  ⟨false, none, 0, ⟨(fun h => by cases h), (fun h' => absurd h' h)⟩, he, xf_no _ _, hb⟩
theorem get_yes {zs : List Int} {w w' : World} {e : Ending} {A : Option Addr} {cap : Nat} (h : okG zs) (he : e = .returned (.tuple #[.agg #[.int .i64 (pgO zs), .int .i64 (psO zs), .int .i64 (clO zs), .slice A 1 cap], .int .i64 13])) (hW : WordsAt w' A 1 (fO zs)) (hb : Below w.heap.size w w') : GetR zs w e w' :=
  ⟨true, A, cap, ⟨fun _ => h, fun _ => rfl⟩, he, by have e : xf true (fO zs) = fO zs := funext fun i => rfl; rw [e]; exact hW, hb⟩
/-- What the three numbers at the beginning are. -/
theorem head3 (zs : List Int) (h : 5 ≤ zs.length) : (tkL (some (zs.take 5)) 1) = (zs.take 1, some ((zs.drop 1).take 4)) ∧ tkL (some ((zs.drop 1).take 4)) 2 = ((zs.drop 1).take 2, some ((zs.drop 3).take 2)) ∧ tkL (some ((zs.drop 3).take 2)) 2 = ((zs.drop 3).take 2, some []) := by
  refine ⟨?_, ?_, ?_⟩
  · unfold tkL
    simp only
    rw [if_pos (by simp; omega), List.take_take, List.drop_take]
    rfl
  · unfold tkL
    simp only
    rw [if_pos (by simp; omega), List.take_take, List.drop_take, List.drop_drop]
    rfl
  · unfold tkL
    simp only
    rw [if_pos (by simp; omega), List.take_take, List.drop_take]
    simp
end Go.Proofs.Ytakcdkcikopoiaa
