/- The document's row of bits (mothballref08) in memory; the document's example. -/
import Derived.Test.YtddajgdjmmnnpaaBitF
namespace Go.Proofs.Ytddajgdjmmnnpaa
open Go.RowKit
set_option linter.unusedVariables false

/-- The document's row in memory. -/
def R8At (w : World) (q u n : Nat) (f : Nat → Bool) : Prop :=
  q ≠ u ∧ n ≤ 65536 ∧ Blk w q [.slice (some ⟨u, 0, none⟩) n n] 36 ∧ Blk w u (fnV n fun i => .bool (f i)) 4
def R8S (q u : Nat) (i : Nat) : Prop := i = q ∨ i = u
theorem R8At.only {w w' : World} {q u n : Nat} {f : Nat → Bool} {S : Nat → Prop} (h : R8At w q u n f) (o : Only S w w') (h1 : ¬ S q) (h2 : ¬ S u) : R8At w' q u n f :=
  ⟨h.1, h.2.1, h.2.2.1.only o h1, h.2.2.2.only o h2⟩
theorem R8At.below {w w' : World} {q u n : Nat} {f : Nat → Bool} (h : R8At w q u n f) (o : Below w.heap.size w w') : R8At w' q u n f :=
  ⟨h.1, h.2.1, h.2.2.1.below o, h.2.2.2.below o⟩
theorem R8At.turned {w : World} {q u n : Nat} {f : Nat → Bool} (h : R8At w q u n f) (i : Nat) (b : Bool) : R8At (w.setCell ⟨u, i, none⟩ (.bool b)) q u n (put f i b) := by
  obtain ⟨h1, h2, h3, h4⟩ := h
  refine ⟨h1, h2, h3.set_other h1 _ _, ?_⟩
  have := h4.set i (.bool b)
  rw [fnV_set] at this
  have e : (fun j => if j = i then Value.bool b else Value.bool (f j)) = (fun j => Value.bool (put f i b j)) := funext fun j => by unfold put; split <;> rfl
  rw [e] at this
  exact this

set_option maxHeartbeats 400000 in
theorem new8_calls (w : World) (n : Nat) (h : n ≤ 65536) :
    Calls Try.prog 8 #[.int .i64 n] w fun e w' => ∃ q u, e = .returned (.pointer (some ⟨q, 0, none⟩)) ∧ R8At w' q u n (fun _ => false) ∧ w.heap.size ≤ q ∧ w.heap.size ≤ u ∧ Below w.heap.size w w' := by
  obtain ⟨i0, hi, hz0, hz1, hz2⟩ := info_parts Try.info_bool
  have hmk := run_make1 (P := Try.prog) w 34 4 i0 _ (.bool false) Try.underlying34 hi hz0 rfl hz1 n (by rw [hz2]; omega) (by omega)
  have HM : Hid (R8At ((w.alloc (.cells (zrow n (.bool false)) 4)).alloc (.cells #[.slice (some ⟨w.heap.size, 0, none⟩) n n] 36)) (w.heap.size + 1) w.heap.size n (fun _ => false)) := Lib.hid (by
    refine ⟨by omega, h, ?_, ?_⟩
    · have := Blk.new (w.alloc (.cells (zrow n (.bool false)) 4)) #[.slice (some ⟨w.heap.size, 0, none⟩) n n] 36
      simpa using this
    · have := (Blk.new w (zrow n (.bool false)) 4).alloc (.cells #[.slice (some ⟨w.heap.size, 0, none⟩) n n] 36)
      rw [zrow_toList, fnV_rep] at this
      exact this)
  have HB : Hid (Below w.heap.size w ((w.alloc (.cells (zrow n (.bool false)) 4)).alloc (.cells #[.slice (some ⟨w.heap.size, 0, none⟩) n n] 36))) := Lib.hid (((Below.refl _ _).alloc (Nat.le_refl _) _).alloc (by simp) _)
  clear hi hz0 hz1 hz2
  go_enter Try.func8, Try.ntmps8
  go_wp2
  go_ret
  exact ⟨_, _, rfl, HM.out, by omega, by omega, HB.out⟩

theorem there8_calls (w : World) (q u n : Nat) (f : Nat → Bool) (A : Nat) (h : R8At w q u n f) (hA : A < n) :
    Calls Try.prog 22 #[.pointer (some ⟨q, 0, none⟩), .int .i64 A, .int .i64 1] w fun e w' => e = .returned (.bool true) ∧ w = w' := by
  have c0 := h.2.2.1.cell 0
  have hn := h.2.1
  simp only [List.getElem?_cons_zero] at c0
  clear h
  have h1 : (A : Int) ≤ n := by omega
  have h2 : (1 : Int) ≤ (n : Int) - A := by omega
  go_enter Try.func22, Try.ntmps22
  go_wp2
  go_ret
  exact ⟨rfl, rfl⟩

set_option maxHeartbeats 1000000 in
theorem turn8_ok (w : World) (q u n : Nat) (f : Nat → Bool) (A : Nat) (h : R8At w q u n f) (hA : A < n) (hf : f A = false) :
    Calls Try.prog 10 #[.pointer (some ⟨q, 0, none⟩), .int .i64 A, .int .i64 1, .bool true] w fun e w' => e = .returned (.int .i64 0) ∧ R8At w' q u n (put f A true) ∧ Only (R8S q u) w w' := by
  have HM := Lib.hid h
  have c0 := h.2.2.1.cell 0
  simp only [List.getElem?_cons_zero] at c0
  have ca := h.2.2.2.cell A
  rw [fnV_at _ _ _ hA, hf] at ca
  have fa := h.2.2.2.free A
  have hn := h.2.1
  have HP := Lib.hid (h.turned A true)
  clear h hf
  go_enter Try.func10, Try.ntmps10
  go_wp2_with fail
  refine (there8_calls _ q u n f A HM.out hA).mono ?_
  rintro e w' ⟨rfl, rfl⟩
  go_wp2_with fail
  go_loopg [9] 1 (fun k i wr => ∃ j : Nat, k + j = 1 ∧ i = .int .i64 ((A + j : Nat) : Int) ∧ w = wr)
  case atStart => exact ⟨0, by omega, by go_num, rfl⟩
  case round =>
    obtain ⟨j, hj, rfl, rfl⟩ := hrel
    by_cases hj0 : j = 0
    · subst hj0
      rw [Nat.add_zero]
      go_wp2
      go_roundg 0
      case measure => omega
      case rel => exact ⟨1, by omega, by go_num, rfl⟩
    · obtain rfl : j = 1 := by omega
      go_wp2_with fail
      go_loopg [10] 1 (fun k i wr => ∃ j : Nat, k + j = 1 ∧ i = .int .i64 ((A + j : Nat) : Int) ∧ wr = (if j = 0 then w else w.setCell ⟨u, A, none⟩ (.bool true)))
      case atStart => exact ⟨0, by omega, by go_num, rfl⟩
      case round =>
        obtain ⟨j, hj, rfl, hw⟩ := hrel
        by_cases hj0 : j = 0
        · subst hj0
          rw [if_pos rfl] at hw
          subst hw
          rw [Nat.add_zero]
          go_wp2
          go_roundg 0
          case measure => omega
          case rel => exact ⟨1, by omega, by go_num, by rw [if_neg (by omega)]⟩
        · obtain rfl : j = 1 := by omega
          rw [if_neg (by omega)] at hw
          subst hw
          go_wp2
          go_ret
          exact ⟨rfl, HP.out, (Only.refl _ _).set (fun _ => .inr rfl) _⟩

set_option maxHeartbeats 1000000 in
theorem turn8_no (w : World) (q u n : Nat) (f : Nat → Bool) (A : Nat) (h : R8At w q u n f) (hA : A < n) (hf : f A = true) :
    Calls Try.prog 10 #[.pointer (some ⟨q, 0, none⟩), .int .i64 A, .int .i64 1, .bool true] w fun e w' => e = .returned (.int .i64 2) ∧ w = w' := by
  have HM := Lib.hid h
  have c0 := h.2.2.1.cell 0
  simp only [List.getElem?_cons_zero] at c0
  have ca := h.2.2.2.cell A
  rw [fnV_at _ _ _ hA, hf] at ca
  have hn := h.2.1
  clear h hf
  go_enter Try.func10, Try.ntmps10
  go_wp2_with fail
  refine (there8_calls _ q u n f A HM.out hA).mono ?_
  rintro e w' ⟨rfl, rfl⟩
  go_wp2_with fail
  go_loopg [9] 1 (fun k i wr => k = 1 ∧ i = .int .i64 A ∧ w = wr)
  case atStart => exact ⟨rfl, rfl, rfl⟩
  case round =>
    obtain ⟨hk, rfl, rfl⟩ := hrel
    go_wp2
    go_ret
    exact ⟨rfl, rfl⟩

theorem count8_calls (w : World) (q u n : Nat) (f : Nat → Bool) (h : R8At w q u n f) :
    Calls Try.prog 12 #[.pointer (some ⟨q, 0, none⟩)] w fun e w' => e = .returned (.int .i64 (cntF f n)) ∧ w = w' := by
  have HM := Lib.hid h
  have c0 := h.2.2.1.cell 0
  simp only [List.getElem?_cons_zero] at c0
  have hn := h.2.1
  clear h
  go_enter Try.func12, Try.ntmps12
  go_wp2_with fail
  go_loopg [3, 4] n (fun k v i wr => ∃ j : Nat, k + j = n ∧ i = .int .i64 j ∧ v = .int .i64 (cntF f j : Nat) ∧ w = wr)
  case atStart => exact ⟨0, by omega, rfl, rfl, rfl⟩
  case round =>
    obtain ⟨j, hj, rfl, rfl, rfl⟩ := hrel
    have hle := cntF_le f j
    by_cases hlt : j < n
    · have ca := HM.out.2.2.2.cell j
      rw [fnV_at _ _ _ hlt] at ca
      cases hf : f j
      · have hs := Lib.hid (show cntF f (j + 1) = cntF f j by simp [cntF, hf])
        rw [hf] at ca
        clear hf
        go_wp2
        go_roundg (gk - 1)
        case measure => omega
        case rel => exact ⟨j + 1, by omega, by go_num, by rw [hs.out], rfl⟩
      · have hs := Lib.hid (show cntF f (j + 1) = cntF f j + 1 by simp [cntF, hf])
        rw [hf] at ca
        clear hf
        go_wp2
        go_roundg (gk - 1)
        case measure => omega
        case rel => exact ⟨j + 1, by omega, by go_num, by rw [hs.out]; go_num, rfl⟩
    · obtain rfl : j = n := by omega
      go_wp2
      go_ret
      exact ⟨rfl, rfl⟩
end Go.Proofs.Ytddajgdjmmnnpaa
