/- The walks through package bits: turn, Set, Clear, New. -/
import Derived.Test.YtadbbknllakpcaaBitA
import Derived.Test.YtadbbknllakpcaaMk
import Derived.BigRegion
import Derived.Deep.RegionWith
namespace Go.Proofs.Ytadbbknllakpcaa
open Go.RowKit
set_option linter.unusedVariables false

/-- A run of f is made s. -/
def fillF (f : Nat → Bool) (A K : Nat) (s : Bool) (i : Nat) : Bool := if A ≤ i ∧ i < A + K then s else f i
theorem fillF_zero (f : Nat → Bool) (A : Nat) (s : Bool) : fillF f A 0 s = f := funext fun i => by unfold fillF; rw [if_neg (by omega)]
theorem fillF_succ (f : Nat → Bool) (A K : Nat) (s : Bool) : put (fillF f A K s) (A + K) s = fillF f A (K + 1) s := funext fun i => by
  unfold put fillF
  by_cases h : i = A + K
  · rw [if_pos h, if_pos (by omega)]
  · rw [if_neg h]
    by_cases h2 : A ≤ i ∧ i < A + K
    · rw [if_pos h2, if_pos (by omega)]
    · rw [if_neg h2, if_neg (by omega)]
theorem put_full (n : Nat) (f : Nat → Bool) (i : Nat) (b : Bool) : put (fullB n f) (i / 64) (fullB n (put f i b) (i / 64)) = fullB n (put f i b) := funext fun k => by
  by_cases h : k = i / 64
  · rw [h]; unfold put; rw [if_pos rfl]
  · rw [fullB_put n f i b k h]; show (if k = i / 64 then _ else _) = _; rw [if_neg h]
theorem RowMid.flip {w : World} {r a c n : Nat} {f g : Nat → Bool} (h : RowMid w r a c n f g) (i : Nat) (hi : i < n) : RowMid (w.setCell ⟨a, i / 64, none⟩ (.int .u64 (wd (put f i (!f i)) (i / 64)))) r a c n (put f i (!f i)) g := by
  obtain ⟨h1, h2, h3, h4, h5, h6⟩ := h
  refine ⟨h1, h2, fun j hj => ?_, h4.set_other h1.1 _ _, ?_, h6.set_other (fun e => h1.2.2 e.symm) _ _⟩
  · unfold put; rw [if_neg (by omega)]; exact h3 j hj
  · have := h5.set (i / 64) (.int .u64 (wd (put f i (!f i)) (i / 64)))
    rw [fnV_set] at this
    have e : (fun j => if j = i / 64 then Value.int .u64 (wd (put f i (!f i)) (i / 64)) else Value.int .u64 (wd f j)) = (fun j => Value.int .u64 (wd (put f i (!f i)) j)) := funext fun j => by
      by_cases hj : j = i / 64
      · rw [if_pos hj, hj]
      · rw [if_neg hj, wd_other f i j _ hj]
    rw [e] at this
    exact this

set_option maxHeartbeats 2000000 in
theorem turn_ok (w : World) (r a c n : Nat) (f : Nat → Bool) (A K : Nat) (s : Bool) (h : RowAt w r a c n f) (hA : A + K ≤ n) (hc : ∀ i, A ≤ i → i < A + K → f i = !s) :
    Calls Try.prog 62 #[.pointer (some ⟨r, 0, none⟩), .int .i64 A, .int .i64 K, .bool s] w fun e w' => e = .returned (.int .i64 0) ∧ RowAt w' r a c n (fillF f A K s) ∧ Only (RowS r a c) w w' := by
  have HM := Lib.hid h
  have HC := Lib.hid hc
  have c0 := h.2.2.2.1.cell 0
  have hn := h.2.1
  simp only [List.getElem?_cons_zero] at c0
  have hkn : ¬ n < K := by omega
  have hkn2 : decide (n < K) = false := decide_eq_false hkn
  clear h hc
  go_enter Try.func62, Try.ntmps62
  go_wp2_with fail
  go_loopg [9] K (fun q i wr => ∃ j : Nat, q + j = K ∧ i = .int .i64 ((A + j : Nat) : Int) ∧ w = wr)
  case atStart => exact ⟨0, by omega, by go_num, rfl⟩
  case round =>
    obtain ⟨j, hj, rfl, rfl⟩ := hrel
    by_cases hlt : j < K
    · have hfi := HC.out (A + j) (by omega) (by omega)
      cases s
      · go_wp2_with (go_at_call 61; refine (has_yes _ r a c n f _ (A + j) HM.out (by omega)).mono ?_; rintro e w' ⟨rfl, rfl⟩; rw [hfi])
        go_roundg (gk - 1)
        case measure => omega
        case rel => exact ⟨j + 1, by omega, by go_num, rfl⟩
      · go_wp2_with (go_at_call 61; refine (has_yes _ r a c n f _ (A + j) HM.out (by omega)).mono ?_; rintro e w' ⟨rfl, rfl⟩; rw [hfi])
        go_roundg (gk - 1)
        case measure => omega
        case rel => exact ⟨j + 1, by omega, by go_num, rfl⟩
    · obtain rfl : j = K := by omega
      go_wp2_with fail
      go_loopg [10] j (fun q i wr => ∃ t : Nat, q + t = j ∧ i = .int .i64 ((A + t : Nat) : Int) ∧ RowAt wr r a c n (fillF f A t s) ∧ Only (RowS r a c) w wr)
      case atStart => exact ⟨0, by omega, by go_num, by rw [fillF_zero]; exact HM.out, Only.refl _ _⟩
      case round =>
        obtain ⟨t, ht, rfl, hr, ho⟩ := hrel
        have HR := Lib.hid hr
        have HO := Lib.hid ho
        by_cases hlt : t < j
        · have hfi : fillF f A t s (A + t) = !s := by unfold fillF; rw [if_neg (by omega)]; exact HC.out (A + t) (by omega) (by omega)
          have HF := Lib.hid hfi
          have d1 := hr.2.2.2.1.cell 1
          simp only [List.getElem?_cons_zero, List.getElem?_cons_succ] at d1
          obtain ⟨x, hx⟩ : ∃ x, A + t = x := ⟨_, rfl⟩
          have hxi : (A : Int) + (t : Int) = (x : Int) := by omega
          have hxn : x < n := by omega
          have hk : x / 64 < wn n := by unfold wn; omega
          have dw := hr.2.2.2.2.1.cell (x / 64)
          rw [fnV_at _ _ _ hk] at dw
          have fw := hr.2.2.2.2.1.free (x / 64)
          have hWn : wn n ≤ 65536 := by unfold wn; omega
          obtain ⟨b, hb2⟩ : ∃ b, x % 64 = b := ⟨_, rfl⟩
          have hbl : b < 64 := by omega
          have ha : bits .and .i64 (x : Int) 63 = (b : Int) := by rw [i64_and63]; omega
          have HX := Lib.hid hx
          have HB := Lib.hid hb2
          have HK := Lib.hid hk
          have hl := wd_lt (fillF f A t s) (x / 64)
          rw [hx]
          clear hr ho hx hb2 hfi
          go_wp2_with fail
          go_region
          have e : bits .xor .u64 ((wd (fillF f A t s) (x / 64) : Nat) : Int) (IntKind.u64.wrap (2 ^ b)) = ((wd (put (fillF f A t s) x (!(fillF f A t s) x)) (x / 64) : Nat) : Int) := by
            rw [one_shl b hbl, u64_xor_nat _ _ hl (Nat.pow_lt_pow_right (a := 2) (n := 64) (by omega) hbl), wd_flip, HB.out]
          rw [e]
          obtain ⟨W1, hW1⟩ : ∃ W1 : World, W1 = (wr.setCell ⟨a, x / 64, none⟩ (.int .u64 ((wd (put (fillF f A t s) x (!(fillF f A t s) x)) (x / 64) : Nat) : Int))).drew := ⟨_, rfl⟩
          rw [← hW1]
          have hmid : RowMid W1 r a c n (put (fillF f A t s) x (!(fillF f A t s) x)) (fullB n (fillF f A t s)) := by rw [hW1]; exact (HR.out.flip x hxn).drewN 1
          have hno : Only (RowS r a c) w W1 := by rw [hW1]; exact (HO.out.set (fun _ => .inr (.inl rfl)) _).drew
          have hxs : (!(fillF f A t s) x) = s := by rw [← HX.out, HF.out]; simp
          rw [hxs] at hmid
          have HMid := Lib.hid hmid
          have HNo := Lib.hid hno
          clear hW1 e hmid hno hxs d1 dw fw hl
          go_wp2_with fail
          refine (note_calls _ r a c n _ _ (x / 64) HMid.out HK.out).mono ?_
          rintro e w7 ⟨rfl, hr7, ho7⟩
          rw [put_full, ← HX.out, fillF_succ] at hr7
          have HR7 := Lib.hid hr7
          have HO7 := Lib.hid (HNo.out.trans ho7 (fun _ _ h => h))
          clear hr7 ho7
          go_wp2
          go_roundg (gk - 1)
          case measure => omega
          case rel => exact ⟨t + 1, by omega, by have := HX.out; go_num, HR7.out, HO7.out⟩
        · obtain rfl : t = j := by omega
          go_wp2
          go_ret
          exact ⟨rfl, HR.out, HO.out⟩

set_option maxHeartbeats 1000000 in
theorem turn_no (w : World) (r a c n : Nat) (f : Nat → Bool) (A K J : Nat) (s : Bool) (h : RowAt w r a c n f) (hA : A + K ≤ n) (hJ : J < K) (hs : f (A + J) = s) (hc : ∀ i, A ≤ i → i < A + J → f i = !s) :
    Calls Try.prog 62 #[.pointer (some ⟨r, 0, none⟩), .int .i64 A, .int .i64 K, .bool s] w fun e w' => e = .returned (.int .i64 2) ∧ w = w' := by
  have HM := Lib.hid h
  have HC := Lib.hid hc
  have HS := Lib.hid hs
  have c0 := h.2.2.2.1.cell 0
  have hn := h.2.1
  simp only [List.getElem?_cons_zero] at c0
  have hkn : ¬ n < K := by omega
  have hkn2 : decide (n < K) = false := decide_eq_false hkn
  clear h hc hs
  go_enter Try.func62, Try.ntmps62
  go_wp2_with fail
  go_loopg [9] (J + 1) (fun q i wr => ∃ j : Nat, q + j = J + 1 ∧ j ≤ J ∧ i = .int .i64 ((A + j : Nat) : Int) ∧ w = wr)
  case atStart => exact ⟨0, by omega, by omega, by go_num, rfl⟩
  case round =>
    obtain ⟨j, hj, hjJ, rfl, rfl⟩ := hrel
    by_cases hlt : j < J
    · have hfi := HC.out (A + j) (by omega) (by omega)
      cases s
      · go_wp2_with (go_at_call 61; refine (has_yes _ r a c n f _ (A + j) HM.out (by omega)).mono ?_; rintro e w' ⟨rfl, rfl⟩; rw [hfi])
        go_roundg (gk - 1)
        case measure => omega
        case rel => exact ⟨j + 1, by omega, by omega, by go_num, rfl⟩
      · go_wp2_with (go_at_call 61; refine (has_yes _ r a c n f _ (A + j) HM.out (by omega)).mono ?_; rintro e w' ⟨rfl, rfl⟩; rw [hfi])
        go_roundg (gk - 1)
        case measure => omega
        case rel => exact ⟨j + 1, by omega, by omega, by go_num, rfl⟩
    · obtain rfl : j = J := by omega
      cases s
      · go_wp2_with (go_at_call 61; refine (has_yes _ r a c n f _ (A + j) HM.out (by omega)).mono ?_; rintro e w' ⟨rfl, rfl⟩; rw [HS.out])
        go_ret
        exact ⟨rfl, rfl⟩
      · go_wp2_with (go_at_call 61; refine (has_yes _ r a c n f _ (A + j) HM.out (by omega)).mono ?_; rintro e w' ⟨rfl, rfl⟩; rw [HS.out])
        go_ret
        exact ⟨rfl, rfl⟩

theorem set_ok (w : World) (r a c n : Nat) (f : Nat → Bool) (A K : Nat) (h : RowAt w r a c n f) (hA : A + K ≤ n) (hc : ∀ i, A ≤ i → i < A + K → f i = false) :
    Calls Try.prog 43 #[.pointer (some ⟨r, 0, none⟩), .int .i64 A, .int .i64 K] w fun e w' => e = .returned (.int .i64 0) ∧ RowAt w' r a c n (fillF f A K true) ∧ Only (RowS r a c) w w' := by
  have HM := Lib.hid h
  have HC := Lib.hid hc
  clear h hc
  go_enter Try.func43, Try.ntmps43
  go_wp2_with fail
  refine (turn_ok _ r a c n f A K true HM.out hA HC.out).mono ?_
  rintro e w' ⟨rfl, hr, ho⟩
  have HR := Lib.hid hr
  have HO := Lib.hid ho
  clear hr ho
  go_wp2
  go_ret
  exact ⟨rfl, HR.out, HO.out⟩
theorem set_no (w : World) (r a c n : Nat) (f : Nat → Bool) (A : Nat) (h : RowAt w r a c n f) (hA : A < n) (hs : f A = true) :
    Calls Try.prog 43 #[.pointer (some ⟨r, 0, none⟩), .int .i64 A, .int .i64 1] w fun e w' => e = .returned (.int .i64 2) ∧ w = w' := by
  have HM := Lib.hid h
  have HS := Lib.hid hs
  clear h hs
  go_enter Try.func43, Try.ntmps43
  go_wp2_with fail
  refine (turn_no _ r a c n f A 1 0 true HM.out (by omega) (by omega) HS.out (fun i h1 h2 => by omega)).mono ?_
  rintro e w' ⟨rfl, rfl⟩
  go_wp2
  go_ret
  exact ⟨rfl, rfl⟩
theorem clear_ok (w : World) (r a c n : Nat) (f : Nat → Bool) (A K : Nat) (h : RowAt w r a c n f) (hA : A + K ≤ n) (hc : ∀ i, A ≤ i → i < A + K → f i = true) :
    Calls Try.prog 49 #[.pointer (some ⟨r, 0, none⟩), .int .i64 A, .int .i64 K] w fun e w' => e = .returned (.int .i64 0) ∧ RowAt w' r a c n (fillF f A K false) ∧ Only (RowS r a c) w w' := by
  have HM := Lib.hid h
  have HC := Lib.hid hc
  clear h hc
  go_enter Try.func49, Try.ntmps49
  go_wp2_with fail
  refine (turn_ok _ r a c n f A K false HM.out hA HC.out).mono ?_
  rintro e w' ⟨rfl, hr, ho⟩
  have HR := Lib.hid hr
  have HO := Lib.hid ho
  clear hr ho
  go_wp2
  go_ret
  exact ⟨rfl, HR.out, HO.out⟩

theorem words_calls (n : Nat) (w : World) (h : n ≤ 100000) :
    Calls Try.prog 78 #[.int .i64 n] w fun e w' => e = .returned (.int .i64 (wn n)) ∧ w = w' := by
  have e : ((n : Int) + 63) / 64 = ((wn n : Nat) : Int) := by unfold wn; omega
  have E := Lib.hid e
  clear e
  go_enter Try.func78, Try.ntmps78
  go_wp2
  go_ret
  refine ⟨?_, rfl⟩
  rw [← E.out]
  exact ret_eq (by omega)
theorem new_no (w : World) (n : Int) (h : n < 0 ∨ 65536 < n) :
    Calls Try.prog 72 #[.int .i64 n] w fun e w' => e = .returned (.tuple #[.pointer none, .int .i64 2]) ∧ w = w' := by
  rcases h with h | h
  · go_enter Try.func72, Try.ntmps72
    go_wp2
    go_ret2
    exact ⟨rfl, rfl⟩
  · have h' : ¬ n < 0 := by omega
    go_enter Try.func72, Try.ntmps72
    go_wp2
    go_ret2
    exact ⟨rfl, rfl⟩

theorem row_new (w : World) (n a c W F : Nat) (hn : n ≤ 65536) (hab : (a = w.heap.size ∧ c = w.heap.size + 1 ∧ W = wn n ∧ F = wn (wn n)) ∨ (a = w.heap.size + 1 ∧ c = w.heap.size ∧ F = wn n ∧ W = wn (wn n))) :
    RowAt (((w.alloc (.cells (zrow W (.int .u64 0)) 60)).alloc (.cells (zrow F (.int .u64 0)) 60)).alloc (.cells #[.int .i64 n, .slice (some ⟨a, 0, none⟩) (wn n) (wn n), .slice (some ⟨c, 0, none⟩) (wn (wn n)) (wn (wn n))] 97)).drew (w.heap.size + 1 + 1) a c n (fun _ => false) ∧
    Below w.heap.size w (((w.alloc (.cells (zrow W (.int .u64 0)) 60)).alloc (.cells (zrow F (.int .u64 0)) 60)).alloc (.cells #[.int .i64 n, .slice (some ⟨a, 0, none⟩) (wn n) (wn n), .slice (some ⟨c, 0, none⟩) (wn (wn n)) (wn (wn n))] 97)).drew := by
  have b0 := ((Blk.new w (zrow W (.int .u64 0)) 60).alloc (.cells (zrow F (.int .u64 0)) 60)).alloc (.cells #[.int .i64 n, .slice (some ⟨a, 0, none⟩) (wn n) (wn n), .slice (some ⟨c, 0, none⟩) (wn (wn n)) (wn (wn n))] 97)
  have b1 := (Blk.new (w.alloc (.cells (zrow W (.int .u64 0)) 60)) (zrow F (.int .u64 0)) 60).alloc (.cells #[.int .i64 n, .slice (some ⟨a, 0, none⟩) (wn n) (wn n), .slice (some ⟨c, 0, none⟩) (wn (wn n)) (wn (wn n))] 97)
  have b2 := Blk.new ((w.alloc (.cells (zrow W (.int .u64 0)) 60)).alloc (.cells (zrow F (.int .u64 0)) 60)) #[.int .i64 n, .slice (some ⟨a, 0, none⟩) (wn n) (wn n), .slice (some ⟨c, 0, none⟩) (wn (wn n)) (wn (wn n))] 97
  have s1 : (w.alloc (.cells (zrow W (.int .u64 0)) 60)).heap.size = w.heap.size + 1 := by simp
  have s2 : ((w.alloc (.cells (zrow W (.int .u64 0)) 60)).alloc (.cells (zrow F (.int .u64 0)) 60)).heap.size = w.heap.size + 1 + 1 := by simp
  rw [s1] at b1
  rw [s2] at b2
  rw [zrow_toList, fnV_rep] at b0 b1
  have e1 : ∀ k, fnV k (fun j => Value.int .u64 (wd (fun _ => false) j)) = fnV k (fun _ => .int .u64 0) := fun k => fnV_congr fun j _ => by rw [wd_zero]; rfl
  have e2 : ∀ k, fnV k (fun j => Value.int .u64 (wd (fullB n fun _ => false) j)) = fnV k (fun _ => .int .u64 0) := fun k => fnV_congr fun j _ => by
    have : (fullB n fun _ => false) = fun _ => false := funext fun k => fullB_new n k
    rw [this, wd_zero]; rfl
  refine ⟨⟨by omega, hn, fun _ _ => rfl, by simpa using b2.drew, ?_, ?_⟩, ((((Below.refl _ _).alloc (Nat.le_refl _) _).alloc (by simp) _).alloc (by rw [s2]; omega) _).drew⟩
  · rw [e1]
    rcases hab with ⟨rfl, rfl, rfl, rfl⟩ | ⟨rfl, rfl, rfl, rfl⟩
    · exact b0.drew
    · exact b1.drew
  · rw [e2]
    rcases hab with ⟨rfl, rfl, rfl, rfl⟩ | ⟨rfl, rfl, rfl, rfl⟩
    · exact b1.drew
    · exact b0.drew
set_option maxHeartbeats 1000000 in
theorem new_yes (w : World) (n : Nat) (h : n ≤ 65536) :
    Calls Try.prog 72 #[.int .i64 n] w fun e w' => ∃ r a c, e = .returned (.tuple #[.pointer (some ⟨r, 0, none⟩), .int .i64 0]) ∧ RowAt w' r a c n (fun _ => false) ∧ w.heap.size ≤ r ∧ w.heap.size ≤ a ∧ w.heap.size ≤ c ∧ Below w.heap.size w w' := by
  obtain ⟨i0, hi, hz0, hz1, hz2⟩ := info_parts Try.info_u64
  have hW : wn n ≤ 65536 := by unfold wn; omega
  have hF : wn (wn n) ≤ 65536 := by unfold wn at hW ⊢; omega
  have hmk : ∀ (w : World) (k : Nat), k ≤ 65536 → (Instr.makeSlice 55 (.int .i64 k) (.int .i64 k)).run Try.prog w = .ok (.slice (some ⟨w.heap.size, 0, none⟩) k k) (w.alloc (.cells (zrow k (.int .u64 0)) 60)) := fun w k hk =>
    run_make1 (P := Try.prog) w 55 60 i0 _ (.int .u64 0) Try.underlying55 hi hz0 rfl hz1 k (by rw [hz2]; omega) (by omega)
  have hmW := fun w => hmk w (wn n) hW
  have hmF := fun w => hmk w (wn (wn n)) hF
  clear hi hz0 hz1 hz2 hmk
  go_enter Try.func72, Try.ntmps72
  go_wp2_with fail
  refine (words_calls n _ (by omega)).mono ?_
  rintro e w' ⟨rfl, rfl⟩
  go_wp2_with fail
  go_region_with (first | (go_at_call 78; refine (words_calls (wn n) _ (by omega)).mono ?_; rintro e w' ⟨rfl, rfl⟩))
  all_goals
    have H1 := Lib.hid (row_new w n w.heap.size (w.heap.size + 1) (wn n) (wn (wn n)) h (.inl ⟨rfl, rfl, rfl, rfl⟩))
    have H2 := Lib.hid (row_new w n (w.heap.size + 1) w.heap.size (wn (wn n)) (wn n) h (.inr ⟨rfl, rfl, rfl, rfl⟩))
    go_wp2
    go_ret2
    first | exact ⟨_, _, _, rfl, H1.out.1, by omega, by omega, by omega, H1.out.2⟩ | exact ⟨_, _, _, rfl, H2.out.1, by omega, by omega, by omega, H2.out.2⟩
end Go.Proofs.Ytadbbknllakpcaa
