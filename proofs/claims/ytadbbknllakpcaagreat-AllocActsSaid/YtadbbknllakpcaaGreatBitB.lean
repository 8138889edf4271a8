/- The walks through package bits: turn, Set, Clear, New. -/
import Derived.Test.YtadbbknllakpcaaGreatBitA
import Derived.Test.YtadbbknllakpcaaGreatMk
import Derived.BigRegion
import Derived.Deep.RegionWith
import Derived.Test.YtadbbknllakpcaaGreatLog
namespace Go.Proofs.YtadbbknllakpcaaGreat
open Go.RowKit
set_option linter.unusedVariables false

/-- A run of f is made s. -/
def fillF (f : Nat → Bool) (A K : Nat) (s : Bool) (i : Nat) : Bool := if A ≤ i ∧ i < A + K then s else f i
theorem fillF_zero (f : Nat → Bool) (A : Nat) (s : Bool) : fillF f A 0 s = f := funext fun i => by unfold fillF; rw [if_neg (by omega)]
theorem fillF_succ (f : Nat → Bool) (A K : Nat) (s : Bool) : put (fillF f A K s) (A + K) s = fillF f A (K + 1) s := funext fun i => by
  unfold put fillF
  by_cases h : i = A + K
  · rw [if_pos h, if_pos (by omega)]
  · rw [if_neg h]
    by_cases h2 : A ≤ i ∧ i < A + K
    · rw [if_pos h2, if_pos (by omega)]
    · rw [if_neg h2, if_neg (by omega)]
theorem put_full (n : Nat) (f : Nat → Bool) (i : Nat) (b : Bool) : put (fullB n f) (i / 64) (fullB n (put f i b) (i / 64)) = fullB n (put f i b) := funext fun k => by
  by_cases h : k = i / 64
  · rw [h]; unfold put; rw [if_pos rfl]
  · rw [fullB_put n f i b k h]; show (if k = i / 64 then _ else _) = _; rw [if_neg h]
theorem RowMid.flip {w : World} {r a c n : Nat} {f g : Nat → Bool} (h : RowMid w r a c n f g) (i : Nat) (hi : i < n) : RowMid (w.setCell ⟨a, i / 64, none⟩ (.int .u64 (wd (put f i (!f i)) (i / 64)))) r a c n (put f i (!f i)) g := by
  obtain ⟨h1, h2, h3, h4, h5, h6⟩ := h
  refine ⟨h1, h2, fun j hj => ?_, h4.set_other h1.1 _ _, ?_, h6.set_other (fun e => h1.2.2 e.symm) _ _⟩
  · unfold put; rw [if_neg (by omega)]; exact h3 j hj
  · have := h5.set (i / 64) (.int .u64 (wd (put f i (!f i)) (i / 64)))
    rw [fnV_set] at this
    have e : (fun j => if j = i / 64 then Value.int .u64 (wd (put f i (!f i)) (i / 64)) else Value.int .u64 (wd f j)) = (fun j => Value.int .u64 (wd (put f i (!f i)) j)) := funext fun j => by
      by_cases hj : j = i / 64
      · rw [if_pos hj, hj]
      · rw [if_neg hj, wd_other f i j _ hj]
    rw [e] at this
    exact this

set_option maxHeartbeats 2000000 in
theorem turn_ok (w : World) (r a c n : Nat) (f : Nat → Bool) (A K : Nat) (s : Bool) (h : RowAt w r a c n f) (hA : A + K ≤ n) (hc : ∀ i, A ≤ i → i < A + K → f i = !s) :
    Calls Tryz.prog 85 #[.pointer (some ⟨r, 0, none⟩), .int .i64 A, .int .i64 K, .bool s] w fun e w' => e = .returned (.int .i64 0) ∧ RowAt w' r a c n (fillF f A K s) ∧ Only (RowS r a c) w w' := by
  have HM := Lib.hid h
  have HC := Lib.hid hc
  have c0 := h.2.2.2.1.cell 0
  have hn := h.2.1
  simp only [List.getElem?_cons_zero] at c0
  have hkn : ¬ n < K := by omega
  have hkn2 : decide (n < K) = false := decide_eq_false hkn
  clear h hc
  go_enter Tryz.func85, Tryz.ntmps85
  go_wp2_with fail
  go_loopg [9] K (fun q i wr => ∃ j : Nat, q + j = K ∧ i = .int .i64 ((A + j : Nat) : Int) ∧ w = wr)
  case atStart => exact ⟨0, by omega, by go_num, rfl⟩
  case round =>
    obtain ⟨j, hj, rfl, rfl⟩ := hrel
    by_cases hlt : j < K
    · have hfi := HC.out (A + j) (by omega) (by omega)
      cases s
      · go_wp2_with (go_at_call 84; refine (has_yes _ r a c n f _ (A + j) HM.out (by omega)).mono ?_; rintro e w' ⟨rfl, rfl⟩; rw [hfi])
        go_roundg (gk - 1)
        case measure => omega
        case rel => exact ⟨j + 1, by omega, by go_num, rfl⟩
      · go_wp2_with (go_at_call 84; refine (has_yes _ r a c n f _ (A + j) HM.out (by omega)).mono ?_; rintro e w' ⟨rfl, rfl⟩; rw [hfi])
        go_roundg (gk - 1)
        case measure => omega
        case rel => exact ⟨j + 1, by omega, by go_num, rfl⟩
    · obtain rfl : j = K := by omega
      go_wp2_with fail
      go_loopg [10] j (fun q i wr => ∃ t : Nat, q + t = j ∧ i = .int .i64 ((A + t : Nat) : Int) ∧ RowAt wr r a c n (fillF f A t s) ∧ Only (RowS r a c) w wr)
      case atStart => exact ⟨0, by omega, by go_num, by rw [fillF_zero]; exact HM.out, Only.refl _ _⟩
      case round =>
        obtain ⟨t, ht, rfl, hr, ho⟩ := hrel
        have HR := Lib.hid hr
        have HO := Lib.hid ho
        by_cases hlt : t < j
        · have hfi : fillF f A t s (A + t) = !s := by unfold fillF; rw [if_neg (by omega)]; exact HC.out (A + t) (by omega) (by omega)
          have HF := Lib.hid hfi
          have d1 := hr.2.2.2.1.cell 1
          simp only [List.getElem?_cons_zero, List.getElem?_cons_succ] at d1
          obtain ⟨x, hx⟩ : ∃ x, A + t = x := ⟨_, rfl⟩
          have hxi : (A : Int) + (t : Int) = (x : Int) := by omega
          have hxn : x < n := by omega
          have hk : x / 64 < wn n := by unfold wn; omega
          have dw := hr.2.2.2.2.1.cell (x / 64)
          rw [fnV_at _ _ _ hk] at dw
          have fw := hr.2.2.2.2.1.free (x / 64)
          have hWn : wn n ≤ 65536 := by unfold wn; omega
          obtain ⟨b, hb2⟩ : ∃ b, x % 64 = b := ⟨_, rfl⟩
          have hbl : b < 64 := by omega
          have ha : bits .and .i64 (x : Int) 63 = (b : Int) := by rw [i64_and63]; omega
          have HX := Lib.hid hx
          have HB := Lib.hid hb2
          have HK := Lib.hid hk
          have hl := wd_lt (fillF f A t s) (x / 64)
          rw [hx]
          clear hr ho hx hb2 hfi
          go_wp2_with fail
          go_region
          have e : bits .xor .u64 ((wd (fillF f A t s) (x / 64) : Nat) : Int) (IntKind.u64.wrap (2 ^ b)) = ((wd (put (fillF f A t s) x (!(fillF f A t s) x)) (x / 64) : Nat) : Int) := by
            rw [one_shl b hbl, u64_xor_nat _ _ hl (Nat.pow_lt_pow_right (a := 2) (n := 64) (by omega) hbl), wd_flip, HB.out]
          rw [e]
          obtain ⟨W1, hW1⟩ : ∃ W1 : World, W1 = (wr.setCell ⟨a, x / 64, none⟩ (.int .u64 ((wd (put (fillF f A t s) x (!(fillF f A t s) x)) (x / 64) : Nat) : Int))).drew := ⟨_, rfl⟩
          rw [← hW1]
          have hmid : RowMid W1 r a c n (put (fillF f A t s) x (!(fillF f A t s) x)) (fullB n (fillF f A t s)) := by rw [hW1]; exact (HR.out.flip x hxn).drewN 1
          have hno : Only (RowS r a c) w W1 := by rw [hW1]; exact (HO.out.set (fun _ => .inr (.inl rfl)) _).drew
          have hxs : (!(fillF f A t s) x) = s := by rw [← HX.out, HF.out]; simp
          rw [hxs] at hmid
          have HMid := Lib.hid hmid
          have HNo := Lib.hid hno
          clear hW1 e hmid hno hxs d1 dw fw hl
          go_wp2_with fail
          refine (note_calls _ r a c n _ _ (x / 64) HMid.out HK.out).mono ?_
          rintro e w7 ⟨rfl, hr7, ho7⟩
          rw [put_full, ← HX.out, fillF_succ] at hr7
          have HR7 := Lib.hid hr7
          have HO7 := Lib.hid (HNo.out.trans ho7 (fun _ _ h => h))
          clear hr7 ho7
          go_wp2
          go_roundg (gk - 1)
          case measure => omega
          case rel => exact ⟨t + 1, by omega, by have := HX.out; go_num, HR7.out, HO7.out⟩
        · obtain rfl : t = j := by omega
          go_wp2
          go_ret
          exact ⟨rfl, HR.out, HO.out⟩

set_option maxHeartbeats 1000000 in
theorem turn_no (w : World) (r a c n : Nat) (f : Nat → Bool) (A K J : Nat) (s : Bool) (h : RowAt w r a c n f) (hA : A + K ≤ n) (hJ : J < K) (hs : f (A + J) = s) (hc : ∀ i, A ≤ i → i < A + J → f i = !s) :
    Calls Tryz.prog 85 #[.pointer (some ⟨r, 0, none⟩), .int .i64 A, .int .i64 K, .bool s] w fun e w' => e = .returned (.int .i64 2) ∧ w = w' := by
  have HM := Lib.hid h
  have HC := Lib.hid hc
  have HS := Lib.hid hs
  have c0 := h.2.2.2.1.cell 0
  have hn := h.2.1
  simp only [List.getElem?_cons_zero] at c0
  have hkn : ¬ n < K := by omega
  have hkn2 : decide (n < K) = false := decide_eq_false hkn
  clear h hc hs
  go_enter Tryz.func85, Tryz.ntmps85
  go_wp2_with fail
  go_loopg [9] (J + 1) (fun q i wr => ∃ j : Nat, q + j = J + 1 ∧ j ≤ J ∧ i = .int .i64 ((A + j : Nat) : Int) ∧ w = wr)
  case atStart => exact ⟨0, by omega, by omega, by go_num, rfl⟩
  case round =>
    obtain ⟨j, hj, hjJ, rfl, rfl⟩ := hrel
    by_cases hlt : j < J
    · have hfi := HC.out (A + j) (by omega) (by omega)
      cases s
      · go_wp2_with (go_at_call 84; refine (has_yes _ r a c n f _ (A + j) HM.out (by omega)).mono ?_; rintro e w' ⟨rfl, rfl⟩; rw [hfi])
        go_roundg (gk - 1)
        case measure => omega
        case rel => exact ⟨j + 1, by omega, by omega, by go_num, rfl⟩
      · go_wp2_with (go_at_call 84; refine (has_yes _ r a c n f _ (A + j) HM.out (by omega)).mono ?_; rintro e w' ⟨rfl, rfl⟩; rw [hfi])
        go_roundg (gk - 1)
        case measure => omega
        case rel => exact ⟨j + 1, by omega, by omega, by go_num, rfl⟩
    · obtain rfl : j = J := by omega
      cases s
      · go_wp2_with (go_at_call 84; refine (has_yes _ r a c n f _ (A + j) HM.out (by omega)).mono ?_; rintro e w' ⟨rfl, rfl⟩; rw [HS.out])
        go_ret
        exact ⟨rfl, rfl⟩
      · go_wp2_with (go_at_call 84; refine (has_yes _ r a c n f _ (A + j) HM.out (by omega)).mono ?_; rintro e w' ⟨rfl, rfl⟩; rw [HS.out])
        go_ret
        exact ⟨rfl, rfl⟩

theorem set_ok (w : World) (r a c n : Nat) (f : Nat → Bool) (A K : Nat) (h : RowAt w r a c n f) (hA : A + K ≤ n) (hc : ∀ i, A ≤ i → i < A + K → f i = false) :
    Calls Tryz.prog 62 #[.pointer (some ⟨r, 0, none⟩), .int .i64 A, .int .i64 K] w fun e w' => e = .returned (.int .i64 0) ∧ RowAt w' r a c n (fillF f A K true) ∧ Only (RowS r a c) w w' := by
  have HM := Lib.hid h
  have HC := Lib.hid hc
  clear h hc
  go_enter Tryz.func62, Tryz.ntmps62
  go_wp2_with fail
  refine (turn_ok _ r a c n f A K true HM.out hA HC.out).mono ?_
  rintro e w' ⟨rfl, hr, ho⟩
  have HR := Lib.hid hr
  have HO := Lib.hid ho
  clear hr ho
  go_wp2
  go_ret
  exact ⟨rfl, HR.out, HO.out⟩
theorem set_no (w : World) (r a c n : Nat) (f : Nat → Bool) (A : Nat) (h : RowAt w r a c n f) (hA : A < n) (hs : f A = true) :
    Calls Tryz.prog 62 #[.pointer (some ⟨r, 0, none⟩), .int .i64 A, .int .i64 1] w fun e w' => e = .returned (.int .i64 2) ∧ w = w' := by
  have HM := Lib.hid h
  have HS := Lib.hid hs
  clear h hs
  go_enter Tryz.func62, Tryz.ntmps62
  go_wp2_with fail
  refine (turn_no _ r a c n f A 1 0 true HM.out (by omega) (by omega) HS.out (fun i h1 h2 => by omega)).mono ?_
  rintro e w' ⟨rfl, rfl⟩
  go_wp2
  go_ret
  exact ⟨rfl, rfl⟩
theorem clear_ok (w : World) (r a c n : Nat) (f : Nat → Bool) (A K : Nat) (h : RowAt w r a c n f) (hA : A + K ≤ n) (hc : ∀ i, A ≤ i → i < A + K → f i = true) :
    Calls Tryz.prog 75 #[.pointer (some ⟨r, 0, none⟩), .int .i64 A, .int .i64 K] w fun e w' => e = .returned (.int .i64 0) ∧ RowAt w' r a c n (fillF f A K false) ∧ Only (RowS r a c) w w' := by
  have HM := Lib.hid h
  have HC := Lib.hid hc
  clear h hc
  go_enter Tryz.func75, Tryz.ntmps75
  go_wp2_with fail
  refine (turn_ok _ r a c n f A K false HM.out hA HC.out).mono ?_
  rintro e w' ⟨rfl, hr, ho⟩
  have HR := Lib.hid hr
  have HO := Lib.hid ho
  clear hr ho
  go_wp2
  go_ret
  exact ⟨rfl, HR.out, HO.out⟩

theorem words_calls (n : Nat) (w : World) (h : n ≤ 100000) :
    Calls Tryz.prog 102 #[.int .i64 n] w fun e w' => e = .returned (.int .i64 (wn n)) ∧ w = w' := by
  have e : ((n : Int) + 63) / 64 = ((wn n : Nat) : Int) := by unfold wn; omega
  have E := Lib.hid e
  clear e
  go_enter Tryz.func102, Tryz.ntmps102
  go_wp2
  go_ret
  refine ⟨?_, rfl⟩
  rw [← E.out]
  exact ret_eq (by omega)
theorem new_no (w : World) (n : Int) (h : n < 0 ∨ 65536 < n) :
    Calls Tryz.prog 96 #[.int .i64 n] w fun e w' => e = .returned (.tuple #[.pointer none, .int .i64 2]) ∧ w = w' := by
  rcases h with h | h
  · go_enter Tryz.func96, Tryz.ntmps96
    go_wp2
    go_ret2
    exact ⟨rfl, rfl⟩
  · have h' : ¬ n < 0 := by omega
    go_enter Tryz.func96, Tryz.ntmps96
    go_wp2
    go_ret2
    exact ⟨rfl, rfl⟩

theorem row_new (w : World) (n a c W F : Nat) (hn : n ≤ 65536) (hab : (a = w.heap.size ∧ c = w.heap.size + 1 ∧ W = wn n ∧ F = wn (wn n)) ∨ (a = w.heap.size + 1 ∧ c = w.heap.size ∧ F = wn n ∧ W = wn (wn n))) :
    RowAt (((w.alloc (.cells (zrow W (.int .u64 0)) 64)).alloc (.cells (zrow F (.int .u64 0)) 64)).alloc (.cells #[.int .i64 n, .slice (some ⟨a, 0, none⟩) (wn n) (wn n), .slice (some ⟨c, 0, none⟩) (wn (wn n)) (wn (wn n))] 118)).drew (w.heap.size + 1 + 1) a c n (fun _ => false) ∧
    Below w.heap.size w (((w.alloc (.cells (zrow W (.int .u64 0)) 64)).alloc (.cells (zrow F (.int .u64 0)) 64)).alloc (.cells #[.int .i64 n, .slice (some ⟨a, 0, none⟩) (wn n) (wn n), .slice (some ⟨c, 0, none⟩) (wn (wn n)) (wn (wn n))] 118)).drew := by
  have b0 := ((Blk.new w (zrow W (.int .u64 0)) 64).alloc (.cells (zrow F (.int .u64 0)) 64)).alloc (.cells #[.int .i64 n, .slice (some ⟨a, 0, none⟩) (wn n) (wn n), .slice (some ⟨c, 0, none⟩) (wn (wn n)) (wn (wn n))] 118)
  have b1 := (Blk.new (w.alloc (.cells (zrow W (.int .u64 0)) 64)) (zrow F (.int .u64 0)) 64).alloc (.cells #[.int .i64 n, .slice (some ⟨a, 0, none⟩) (wn n) (wn n), .slice (some ⟨c, 0, none⟩) (wn (wn n)) (wn (wn n))] 118)
  have b2 := Blk.new ((w.alloc (.cells (zrow W (.int .u64 0)) 64)).alloc (.cells (zrow F (.int .u64 0)) 64)) #[.int .i64 n, .slice (some ⟨a, 0, none⟩) (wn n) (wn n), .slice (some ⟨c, 0, none⟩) (wn (wn n)) (wn (wn n))] 118
  have s1 : (w.alloc (.cells (zrow W (.int .u64 0)) 64)).heap.size = w.heap.size + 1 := by simp
  have s2 : ((w.alloc (.cells (zrow W (.int .u64 0)) 64)).alloc (.cells (zrow F (.int .u64 0)) 64)).heap.size = w.heap.size + 1 + 1 := by simp
  rw [s1] at b1
  rw [s2] at b2
  rw [zrow_toList, fnV_rep] at b0 b1
  have e1 : ∀ k, fnV k (fun j => Value.int .u64 (wd (fun _ => false) j)) = fnV k (fun _ => .int .u64 0) := fun k => fnV_congr fun j _ => by rw [wd_zero]; rfl
  have e2 : ∀ k, fnV k (fun j => Value.int .u64 (wd (fullB n fun _ => false) j)) = fnV k (fun _ => .int .u64 0) := fun k => fnV_congr fun j _ => by
    have : (fullB n fun _ => false) = fun _ => false := funext fun k => fullB_new n k
    rw [this, wd_zero]; rfl
  refine ⟨⟨by omega, hn, fun _ _ => rfl, by simpa using b2.drew, ?_, ?_⟩, ((((Below.refl _ _).alloc (Nat.le_refl _) _).alloc (by simp) _).alloc (by rw [s2]; omega) _).drew⟩
  · rw [e1]
    rcases hab with ⟨rfl, rfl, rfl, rfl⟩ | ⟨rfl, rfl, rfl, rfl⟩
    · exact b0.drew
    · exact b1.drew
  · rw [e2]
    rcases hab with ⟨rfl, rfl, rfl, rfl⟩ | ⟨rfl, rfl, rfl, rfl⟩
    · exact b1.drew
    · exact b0.drew
set_option maxHeartbeats 1000000 in
theorem new_yes (w : World) (n : Nat) (h : n ≤ 65536) :
    Calls Tryz.prog 96 #[.int .i64 n] w fun e w' => ∃ r a c, e = .returned (.tuple #[.pointer (some ⟨r, 0, none⟩), .int .i64 0]) ∧ RowAt w' r a c n (fun _ => false) ∧ w.heap.size ≤ r ∧ w.heap.size ≤ a ∧ w.heap.size ≤ c ∧ Below w.heap.size w w' := by
  obtain ⟨i0, hi, hz0, hz1, hz2⟩ := info_parts Tryz.info_u64
  have hW : wn n ≤ 65536 := by unfold wn; omega
  have hF : wn (wn n) ≤ 65536 := by unfold wn at hW ⊢; omega
  have hmk : ∀ (w : World) (k : Nat), k ≤ 65536 → (Instr.makeSlice 25 (.int .i64 k) (.int .i64 k)).run Tryz.prog w = .ok (.slice (some ⟨w.heap.size, 0, none⟩) k k) (w.alloc (.cells (zrow k (.int .u64 0)) 64)) := fun w k hk =>
    run_make1 (P := Tryz.prog) w 25 64 i0 _ (.int .u64 0) Tryz.underlying25 hi hz0 rfl hz1 k (by rw [hz2]; omega) (by omega)
  have hmW := fun w => hmk w (wn n) hW
  have hmF := fun w => hmk w (wn (wn n)) hF
  clear hi hz0 hz1 hz2 hmk
  go_enter Tryz.func96, Tryz.ntmps96
  go_wp2_with fail
  refine (words_calls n _ (by omega)).mono ?_
  rintro e w' ⟨rfl, rfl⟩
  go_wp2_with fail
  go_region_with (first | (go_at_call 102; refine (words_calls (wn n) _ (by omega)).mono ?_; rintro e w' ⟨rfl, rfl⟩))
  all_goals
    have H1 := Lib.hid (row_new w n w.heap.size (w.heap.size + 1) (wn n) (wn (wn n)) h (.inl ⟨rfl, rfl, rfl, rfl⟩))
    have H2 := Lib.hid (row_new w n (w.heap.size + 1) w.heap.size (wn (wn n)) (wn n) h (.inr ⟨rfl, rfl, rfl, rfl⟩))
    go_wp2
    go_ret2
    first | exact ⟨_, _, _, rfl, H1.out.1, by omega, by omega, by omega, H1.out.2⟩ | exact ⟨_, _, _, rfl, H2.out.1, by omega, by omega, by omega, H2.out.2⟩
end Go.Proofs.YtadbbknllakpcaaGreat

/- Plain mathematics for layer 8: the lowest bit of a word; the next bit that is set; how many are. No program in sight. -/
namespace Go.Proofs.YtadbbknllakpcaaGreat
open Go.RowKit
set_option linter.unusedVariables false

theorem least {p : Nat → Bool} : ∀ n, (∃ b, b < n ∧ p b = true) → ∃ b, b < n ∧ p b = true ∧ ∀ i, i < b → p i = false := by
  intro n
  induction n with
  | zero => rintro ⟨b, hb, _⟩; omega
  | succ n ih =>
    rintro ⟨b, hb, hp⟩
    by_cases h : ∃ b, b < n ∧ p b = true
    · obtain ⟨c, hc, h1, h2⟩ := ih h
      exact ⟨c, by omega, h1, h2⟩
    · have hall : ∀ i, i < n → p i = false := fun i hi => by
        cases hpi : p i
        · rfl
        · exact absurd ⟨i, hi, hpi⟩ h
      have : b = n := by
        rcases Nat.lt_or_ge b n with h3 | h3
        · have := hall b h3; rw [hp] at this; cases this
        · omega
      subst this
      exact ⟨b, hb, hp, hall⟩
/-- A word by its lowest bit. -/
theorem low_mod {x t : Nat} (h1 : x.testBit t = true) (h2 : ∀ i, i < t → x.testBit i = false) : x % 2 ^ (t + 1) = 2 ^ t := by
  apply Nat.eq_of_testBit_eq
  intro i
  rw [Nat.testBit_mod_two_pow, Nat.testBit_two_pow]
  by_cases hi : i < t
  · rw [h2 i hi]; simp; omega
  · by_cases he : i = t
    · subst he; simp [h1]
    · simp [show ¬ i < t + 1 by omega]; omega
theorem low_pred {x t : Nat} (h : x % 2 ^ (t + 1) = 2 ^ t) (i : Nat) : (x - 1).testBit i = if i < t then true else if i = t then false else x.testBit i := by
  have hp : 0 < 2 ^ t := Nat.pow_pos (by omega)
  have hs : 2 ^ (t + 1) = 2 * 2 ^ t := by rw [Nat.pow_succ, Nat.mul_comm]
  have hx := Nat.div_add_mod x (2 ^ (t + 1))
  rw [h] at hx
  generalize hq : x / 2 ^ (t + 1) = q at hx
  have hx1 : x - 1 = 2 ^ (t + 1) * q + (2 ^ t - 1) := by omega
  rw [hx1]
  by_cases hi : i < t
  · rw [if_pos hi, Nat.testBit_two_pow_mul_add _ (by omega)]
    rw [if_pos (by omega), Nat.testBit_two_pow_sub_one]
    simp [hi]
  · rw [if_neg hi]
    by_cases he : i = t
    · rw [if_pos he, Nat.testBit_two_pow_mul_add _ (by omega), if_pos (by omega), Nat.testBit_two_pow_sub_one]
      simp; omega
    · rw [if_neg he, Nat.testBit_two_pow_mul_add _ (by omega), if_neg (by omega), ← hx, Nat.testBit_two_pow_mul_add _ (by omega), if_neg (by omega)]
theorem low_and {x t : Nat} (hx : x < 18446744073709551616) (h1 : x.testBit t = true) (h2 : ∀ i, i < t → x.testBit i = false) : x &&& (18446744073709551616 - x) = 2 ^ t := by
  have hm := low_mod h1 h2
  have h0 : 0 < x := by
    rcases Nat.eq_zero_or_pos x with h | h
    · rw [h] at h1; simp at h1
    · exact h
  have e : 18446744073709551616 - x = 2 ^ 64 - ((x - 1) + 1) := by omega
  have hlt : x - 1 < 2 ^ 64 := by omega
  have ht : t < 64 := by
    rcases Nat.lt_or_ge t 64 with h | h
    · exact h
    · rw [Nat.testBit_lt_two_pow (Nat.lt_of_lt_of_le hx (Nat.pow_le_pow_right (n := 2) (by omega) h))] at h1; cases h1
  apply Nat.eq_of_testBit_eq
  intro i
  rw [e, Nat.testBit_and, Nat.testBit_two_pow_sub_succ hlt, low_pred hm i, Nat.testBit_two_pow]
  by_cases hi : i < t
  · rw [h2 i hi]; simp; omega
  · by_cases he : i = t
    · subst he; simp [h1, ht]
    · rw [if_neg hi, if_neg he]
      have : ¬ t = i := fun e => he e.symm
      cases x.testBit i <;> simp [this]
theorem lg_pow (t : Nat) : lg (2 ^ t) = t := by
  unfold lg
  rw [if_neg (by have := Nat.pow_pos (n := t) (show 0 < 2 by omega); omega), Nat.log2_two_pow]
/-- x & -x, as the machine reckons it. -/
theorem low_bits {x t : Nat} (hx : x < 18446744073709551616) (h1 : x.testBit t = true) (h2 : ∀ i, i < t → x.testBit i = false) : bits .and .u64 (x : Int) (IntKind.u64.wrap (-(x : Int))) = ((2 ^ t : Nat) : Int) := by
  have h0 : 0 < x := by
    rcases Nat.eq_zero_or_pos x with h | h
    · rw [h] at h1; simp at h1
    · exact h
  have e : IntKind.u64.wrap (-(x : Int)) = ((18446744073709551616 - x : Nat) : Int) := by rw [IntKind.wrap_u64]; omega
  rw [e, u64_and_nat _ _ hx (by omega), low_and hx h1 h2]
/-- x & (x - 1), as the machine reckons it. -/
theorem clear_and (f : Nat → Bool) (k t : Nat) (ht : t < 64) (h1 : f (64 * k + t) = true) (h2 : ∀ i, i < t → f (64 * k + i) = false) : wd f k &&& (wd f k - 1) = wd (put f (64 * k + t) false) k := by
  have b1 : (wd f k).testBit t = true := by rw [wd_testBit]; simp [ht, h1]
  have b2 : ∀ i, i < t → (wd f k).testBit i = false := fun i hi => by rw [wd_testBit, h2 i hi]; simp
  have hm := low_mod b1 b2
  apply Nat.eq_of_testBit_eq
  intro i
  rw [Nat.testBit_and, low_pred hm i, wd_testBit, wd_testBit]
  unfold put
  by_cases hi : i < t
  · rw [if_pos hi, if_neg (by omega), h2 i hi]; simp
  · rw [if_neg hi]
    by_cases he : i = t
    · subst he; simp
    · rw [if_neg he, if_neg (by omega)]; simp

/-- The next bit that is set, from A on. -/
def NextR (f : Nat → Bool) (A : Nat) (v : Int) : Prop :=
  (v = -1 ∧ ∀ i, A ≤ i → f i = false) ∨ ∃ x : Nat, v = x ∧ A ≤ x ∧ f x = true ∧ ∀ i, A ≤ i → i < x → f i = false
theorem NextR.one {f : Nat → Bool} {A : Nat} {v v' : Int} (h : NextR f A v) (h' : NextR f A v') : v = v' := by
  rcases h with ⟨rfl, h⟩ | ⟨x, rfl, h1, h2, h3⟩ <;> rcases h' with ⟨rfl, h'⟩ | ⟨y, rfl, g1, g2, g3⟩
  · rfl
  · rw [h y g1] at g2; cases g2
  · rw [h' x h1] at h2; cases h2
  · rcases Nat.lt_trichotomy x y with e | e | e
    · rw [g3 x h1 e] at h2; cases h2
    · rw [e]
    · rw [h3 y g1 e] at g2; cases g2
/-- How many of the first n are set. -/
def cntF (f : Nat → Bool) : Nat → Nat
  | 0 => 0
  | n + 1 => cntF f n + if f n then 1 else 0
theorem cntF_le (f : Nat → Bool) (n : Nat) : cntF f n ≤ n := by
  induction n with
  | zero => simp [cntF]
  | succ n ih => simp only [cntF]; split <;> omega
theorem cntF_congr {f g : Nat → Bool} : ∀ n, (∀ i, i < n → f i = g i) → cntF f n = cntF g n := by
  intro n
  induction n with
  | zero => intro _; rfl
  | succ n ih => intro h; simp only [cntF]; rw [ih (fun i hi => h i (by omega)), h n (by omega)]
theorem cntF_put (f : Nat → Bool) (x : Nat) (hf : f x = true) : ∀ n, x < n → cntF (put f x false) n + 1 = cntF f n := by
  intro n
  induction n with
  | zero => intro h; omega
  | succ n ih =>
    intro h
    simp only [cntF]
    by_cases e : x = n
    · subst e
      have : cntF (put f x false) x = cntF f x := cntF_congr x (fun i hi => if_neg (by omega))
      rw [this, hf]
      simp [put]
    · have e2 : put f x false n = f n := if_neg (fun e' => e e'.symm)
      rw [e2]
      have := ih (by omega)
      omega
theorem cntF_flat {f : Nat → Bool} {a : Nat} : ∀ m, a ≤ m → (∀ i, a ≤ i → i < m → f i = false) → cntF f m = cntF f a := by
  intro m
  induction m with
  | zero => intro h _; have : a = 0 := by omega
            rw [this]
  | succ m ih =>
    intro h hf
    by_cases e : a = m + 1
    · rw [e]
    · simp only [cntF]
      rw [ih (by omega) (fun i h1 h2 => hf i h1 (by omega)), hf m (by omega) (by omega)]; simp
theorem cntF_more {f : Nat → Bool} {n : Nat} (h : ∀ i, n ≤ i → f i = false) : ∀ m, n ≤ m → cntF f m = cntF f n := by
  intro m hm
  induction m with
  | zero => have : n = 0 := by omega
            rw [this]
  | succ m ih =>
    by_cases e : n = m + 1
    · rw [e]
    · simp only [cntF]; rw [ih (by omega), h m (by omega)]; simp
end Go.Proofs.YtadbbknllakpcaaGreat

/- The walks through package bits: Next, Count. -/
namespace Go.Proofs.YtadbbknllakpcaaGreat
open Go.RowKit
set_option linter.unusedVariables false

/-- What the machine finds in a word that is not empty. -/
theorem word_low (y : Nat) (hy : y < 18446744073709551616) (h0 : y ≠ 0) : ∃ t z : Nat, t < 64 ∧ y.testBit t = true ∧ (∀ i, i < t → y.testBit i = false) ∧ z = 2 ^ t ∧ z < 18446744073709551616 ∧ lg z = t ∧ bits .and .u64 (y : Int) (IntKind.u64.wrap (-(y : Int))) = (z : Int) := by
  have hex : ∃ b, b < 64 ∧ y.testBit b = true := by
    by_cases h : ∃ b, b < 64 ∧ y.testBit b = true
    · exact h
    · exfalso
      apply h0
      apply Nat.eq_of_testBit_eq
      intro i
      rw [Nat.zero_testBit]
      by_cases hi : i < 64
      · cases hb : y.testBit i
        · rfl
        · exact absurd ⟨i, hi, hb⟩ h
      · exact Nat.testBit_lt_two_pow (Nat.lt_of_lt_of_le hy (Nat.pow_le_pow_right (n := 2) (i := 64) (by omega) (by omega)))
  obtain ⟨t, ht, h1, h2⟩ := least (p := fun b => y.testBit b) 64 hex
  exact ⟨t, 2 ^ t, ht, h1, h2, rfl, Nat.pow_lt_pow_right (a := 2) (n := 64) (by omega) ht, lg_pow t, low_bits hy h1 h2⟩
theorem shift_bit (f : Nat → Bool) (A j : Nat) : (wd f (A / 64) / 2 ^ (A % 64)).testBit j = (decide (j + A % 64 < 64) && f (A + j)) := by
  rw [Nat.testBit_div_two_pow, wd_testBit]
  have : 64 * (A / 64) + (j + A % 64) = A + j := by omega
  rw [this]

set_option maxHeartbeats 1000000 in
theorem count_row (w : World) (r a c n : Nat) (f g : Nat → Bool) (h : RowMid w r a c n f g) :
    Calls Tryz.prog 57 #[.pointer (some ⟨r, 0, none⟩)] w fun e w' => e = .returned (.int .i64 (cntF f n)) ∧ w = w' := by
  have hn := h.2.1
  have c1 := h.2.2.2.1.cell 1
  simp only [List.getElem?_cons_zero, List.getElem?_cons_succ] at c1
  have HM := Lib.hid h
  have hWn : wn n ≤ 1024 := by unfold wn; omega
  clear h
  go_enter Tryz.func57, Tryz.ntmps57
  go_wp2_with fail
  go_loopg [3, 11] (wn n) (fun q v i wr => ∃ j : Nat, q + j = wn n ∧ i = .int .i64 j ∧ v = .int .i64 (cntF f (64 * j) : Nat) ∧ w = wr)
  case atStart => exact ⟨0, by omega, rfl, rfl, rfl⟩
  case round =>
    obtain ⟨j, hj, rfl, rfl, rfl⟩ := hrel
    by_cases hlt : j < wn n
    · have cj := HM.out.2.2.2.2.1.cell j
      rw [fnV_at _ _ _ hlt] at cj
      go_wp2_with fail
      go_loopg [3, 5] (cntF f (64 * (j + 1))) (fun q v x wr => ∃ (hh : Nat → Bool) (y m : Nat), q = cntF hh (64 * (j + 1)) ∧ x = .int .u64 y ∧ v = .int .i64 m ∧ y < 18446744073709551616 ∧ m ≤ 200000 ∧ Hid (y = wd hh j ∧ m + cntF hh (64 * (j + 1)) = cntF f (64 * j) + cntF f (64 * (j + 1)) ∧ ∀ i, i < 64 * j → hh i = f i) ∧ w = wr)
      case atStart => exact ⟨f, wd f j, _, rfl, rfl, rfl, wd_lt _ _, (by have := cntF_le f (64 * j); omega), Lib.hid ⟨rfl, rfl, fun _ _ => rfl⟩, rfl⟩
      case round =>
        obtain ⟨hh, y, m, hq, rfl, rfl, hyl, hml, hI, rfl⟩ := hrel
        by_cases hy0 : y = 0
        · subst hy0
          have hend : m = cntF f (64 * (j + 1)) := by
            obtain ⟨e1, e2, e3⟩ := hI.out
            have hz := wd_eq_zero.1 e1.symm
            have e4 : cntF hh (64 * (j + 1)) = cntF hh (64 * j) := cntF_flat _ (by omega) (fun i h1 h2 => by
              have := hz (i - 64 * j) (by omega)
              rwa [show 64 * j + (i - 64 * j) = i by omega] at this)
            have e5 : cntF hh (64 * j) = cntF f (64 * j) := cntF_congr _ e3
            omega
          have HE := Lib.hid hend
          clear hend
          go_wp2
          go_roundg (wn n - (j + 1))
          case measure => omega
          case rel => exact ⟨j + 1, by omega, by go_num, by rw [HE.out], rfl⟩
        · obtain ⟨t, z, ht, h1, h2, hz, hzl, hlg, hbits⟩ := word_low y hyl hy0
          obtain ⟨hh', y', hy', hc, hI'⟩ : ∃ (hh' : Nat → Bool) (y' : Nat), y' < 18446744073709551616 ∧ bits .and .u64 (y : Int) ((y : Int) - 1) = (y' : Int) ∧ (cntF hh' (64 * (j + 1)) + 1 = cntF hh (64 * (j + 1)) ∧ y' = wd hh' j ∧ ∀ i, i < 64 * j → hh' i = f i) := by
            obtain ⟨e1, e2, e3⟩ := hI.out
            have b1 : hh (64 * j + t) = true := by have := wd_testBit hh j t; rw [← e1, h1] at this; simpa [ht] using this.symm
            have b2 : ∀ i, i < t → hh (64 * j + i) = false := fun i hi => by
              have := wd_testBit hh j i
              rw [← e1, h2 i hi] at this
              simpa [show i < 64 by omega] using this.symm
            refine ⟨put hh (64 * j + t) false, wd (put hh (64 * j + t) false) j, wd_lt _ _, ?_, cntF_put hh _ b1 _ (by omega), rfl, fun i hi => ?_⟩
            · have e4 : (y : Int) - 1 = ((y - 1 : Nat) : Int) := by omega
              rw [e4, u64_and_nat _ _ hyl (by omega), ← clear_and hh j t ht b1 b2, ← e1]
            · unfold put; rw [if_neg (by omega)]; exact e3 i hi
          obtain ⟨i1, i2, i3⟩ := hI'
          have HI := Lib.hid (show y' = wd hh' j ∧ (m + 1) + cntF hh' (64 * (j + 1)) = cntF f (64 * j) + cntF f (64 * (j + 1)) ∧ ∀ i, i < 64 * j → hh' i = f i from ⟨i2, by have := hI.out.2.1; omega, i3⟩)
          have hm2 : m + 1 ≤ 200000 := by
            have := HI.out.2.1
            have a1 := cntF_le f (64 * j)
            have a2 := cntF_le f (64 * (j + 1))
            have e : cntF f (64 * (j + 1)) ≤ 65600 := by omega
            have e' : cntF hh' (64 * (j + 1)) + 1 = cntF hh (64 * (j + 1)) := i1
            omega
          clear h1 h2 hz hlg hbits hI i2 i3
          have hy0' : 0 < y := by omega
          clear hy0
          go_wp2
          go_roundg (gk - 1)
          case measure => omega
          case rel => exact ⟨hh', y', m + 1, by omega, rfl, by go_num, hy', hm2, HI, rfl⟩
    · obtain rfl : j = wn n := by omega
      have hend := cntF_flat (f := f) (a := n) (64 * wn n) (by unfold wn; omega) (fun i h1 _ => HM.out.2.2.1 i h1)
      have HE := Lib.hid hend
      clear hend
      go_wp2
      go_ret
      exact ⟨by rw [HE.out]; rfl, rfl⟩
end Go.Proofs.YtadbbknllakpcaaGreat
