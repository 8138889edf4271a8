/- The walks through package clock: each method does to the clock in memory what its plain counterpart says. -/
import Derived.Test.YtooooidnchgkaaaClk
import Derived.Test.YtooooidnchgkaaaBase
import Derived.RegionTactic
import Derived.Deep.LoopGhost
import Derived.Laws.EntriesVeiled
namespace Go.Proofs.Ytooooidnchgkaaa
open Go.RowKit
set_option linter.unusedVariables false

theorem Try.info_mark : (Try.prog.info? 51).map (fun i => (i.zero, i.size, i.bytes)) = some (some (.int .u8 0), 1, 1) := by kernel_rfl

def zrow (n : Nat) (u : Value) : Array Value := (List.replicate n u).toArray
theorem zrow_toList (n : Nat) (u : Value) : (zrow n u).toList = List.replicate n u := rfl
/-- A clock in memory. -/
def ClkAt (w : World) (p m : Nat) (ms : List Int) (h : Nat) : Prop :=
  p ≠ m ∧ ms.length ≤ 65536 ∧ h < ms.length ∧ Marks ms ∧ Blk w p [.slice (some ⟨m, 0, none⟩) ms.length ms.length, .int .i64 h] 49 ∧ Blk w m (ms.map (.int .u8)) 51
def ClkS (p m : Nat) (k : Nat) : Prop := k = p ∨ k = m
theorem ClkAt.only {w w' : World} {p m : Nat} {ms : List Int} {h : Nat} {S : Nat → Prop} (hc : ClkAt w p m ms h) (k : Only S w w') (h1 : ¬ S p) (h2 : ¬ S m) : ClkAt w' p m ms h :=
  ⟨hc.1, hc.2.1, hc.2.2.1, hc.2.2.2.1, hc.2.2.2.2.1.only k h1, hc.2.2.2.2.2.only k h2⟩
theorem marks_cell {w : World} {m : Nat} {ms : List Int} {t : TypeId} (h : Blk w m (ms.map (.int .u8)) t) (i : Nat) (hi : i < ms.length) : w.cell? ⟨m, i, none⟩ = some (.int .u8 (mk ms i)) := by
  rw [h.cell i]; simp [mk, hi]
theorem marks_set {w : World} {m : Nat} {ms : List Int} {t : TypeId} (h : Blk w m (ms.map (.int .u8)) t) (i : Nat) (v : Int) : Blk (w.setCell ⟨m, i, none⟩ (.int .u8 v)) m ((ms.set i v).map (.int .u8)) t := by
  have := h.set i (.int .u8 v)
  rwa [← List.map_set] at this

theorem there_yes (w : World) (p m : Nat) (ms : List Int) (h : Nat) (i : Nat) (hc : ClkAt w p m ms h) (hi : i < ms.length) :
    Calls Try.prog 21 #[.pointer (some ⟨p, 0, none⟩), .int .i64 i] w fun e w' => e = .returned (.bool true) ∧ w = w' := by
  obtain ⟨h1, h2, h3, h4, h5, h6⟩ := hc
  have c0 := h5.cell 0
  simp only [List.getElem?_cons_zero] at c0
  clear h1 h3 h4 h5 h6
  go_enter Try.func21, Try.ntmps21
  go_wp2
  go_ret
  exact ⟨rfl, rfl⟩
theorem there_no (w : World) (p m : Nat) (ms : List Int) (h : Nat) (i : Int) (hc : ClkAt w p m ms h) (hi : i < 0 ∨ (ms.length : Int) ≤ i) :
    Calls Try.prog 21 #[.pointer (some ⟨p, 0, none⟩), .int .i64 i] w fun e w' => e = .returned (.bool false) ∧ w = w' := by
  obtain ⟨h1, h2, h3, h4, h5, h6⟩ := hc
  have c0 := h5.cell 0
  simp only [List.getElem?_cons_zero] at c0
  clear h1 h3 h4 h5 h6
  by_cases hn : i < 0
  · go_enter Try.func21, Try.ntmps21
    go_wp2
    go_ret
    exact ⟨rfl, rfl⟩
  · go_enter Try.func21, Try.ntmps21
    go_wp2
    go_ret
    exact ⟨ret_bool (decide_eq_false (by omega)), rfl⟩
theorem add_calls (w : World) (p m : Nat) (ms : List Int) (h : Nat) (i : Int) (hc : ClkAt w p m ms h) :
    Calls Try.prog 9 #[.pointer (some ⟨p, 0, none⟩), .int .i64 i] w fun e w' => e = .returned (.tuple #[]) ∧ ClkAt w' p m (setL ms i 1) h ∧ Only (ClkS p m) w w' := by
  by_cases hi : 0 ≤ i ∧ i < ms.length
  · obtain ⟨k, rfl⟩ := Int.eq_ofNat_of_zero_le hi.1
    have hk : k < ms.length := by omega
    have hc' := hc
    obtain ⟨h1, h2, h3, h4, h5, h6⟩ := hc
    have c0 := h5.cell 0
    simp only [List.getElem?_cons_zero] at c0
    have c1 := marks_cell h6 k hk
    have c2 := h6.free k
    have HF : Hid (ClkAt (w.setCell ⟨m, k, none⟩ (.int .u8 1)) p m (setL ms k 1) h) := Lib.hid (by
      unfold setL; rw [if_pos hi, Int.toNat_natCast]
      exact ⟨h1, by simpa using h2, by simpa using h3, h4.set k 1 (.inr (.inl rfl)), by simpa using h5.set_other h1 k _, marks_set h6 k 1⟩)
    have HO : Hid (Only (ClkS p m) w (w.setCell ⟨m, k, none⟩ (.int .u8 1))) := Lib.hid ((Only.refl _ _).set (fun _ => .inr rfl) _)
    clear h1 h3 h4 h5 h6
    go_enter Try.func9, Try.ntmps9
    go_wp2_with (go_at_call 21; refine (there_yes _ p m ms h k hc' hk).mono ?_; rintro e w' ⟨rfl, rfl⟩)
    go_end0
    exact ⟨rfl, HF.out, HO.out⟩
  · have HF : Hid (ClkAt w p m (setL ms i 1) h) := Lib.hid (by unfold setL; rw [if_neg hi]; exact hc)
    go_enter Try.func9, Try.ntmps9
    go_wp2_with (go_at_call 21; refine (there_no _ p m ms h i hc (by omega)).mono ?_; rintro e w' ⟨rfl, rfl⟩)
    go_end0
    exact ⟨rfl, HF.out, Only.refl _ _⟩
theorem remove_calls (w : World) (p m : Nat) (ms : List Int) (h : Nat) (i : Int) (hc : ClkAt w p m ms h) :
    Calls Try.prog 13 #[.pointer (some ⟨p, 0, none⟩), .int .i64 i] w fun e w' => e = .returned (.tuple #[]) ∧ ClkAt w' p m (setL ms i 0) h ∧ Only (ClkS p m) w w' := by
  by_cases hi : 0 ≤ i ∧ i < ms.length
  · obtain ⟨k, rfl⟩ := Int.eq_ofNat_of_zero_le hi.1
    have hk : k < ms.length := by omega
    have hc' := hc
    obtain ⟨h1, h2, h3, h4, h5, h6⟩ := hc
    have c0 := h5.cell 0
    simp only [List.getElem?_cons_zero] at c0
    have c1 := marks_cell h6 k hk
    have c2 := h6.free k
    have HF : Hid (ClkAt (w.setCell ⟨m, k, none⟩ (.int .u8 0)) p m (setL ms k 0) h) := Lib.hid (by
      unfold setL; rw [if_pos hi, Int.toNat_natCast]
      exact ⟨h1, by simpa using h2, by simpa using h3, h4.set k 0 (.inl rfl), by simpa using h5.set_other h1 k _, marks_set h6 k 0⟩)
    have HO : Hid (Only (ClkS p m) w (w.setCell ⟨m, k, none⟩ (.int .u8 0))) := Lib.hid ((Only.refl _ _).set (fun _ => .inr rfl) _)
    clear h1 h3 h4 h5 h6
    go_enter Try.func13, Try.ntmps13
    go_wp2_with (go_at_call 21; refine (there_yes _ p m ms h k hc' hk).mono ?_; rintro e w' ⟨rfl, rfl⟩)
    go_end0
    exact ⟨rfl, HF.out, HO.out⟩
  · have HF : Hid (ClkAt w p m (setL ms i 0) h) := Lib.hid (by unfold setL; rw [if_neg hi]; exact hc)
    go_enter Try.func13, Try.ntmps13
    go_wp2_with (go_at_call 21; refine (there_no _ p m ms h i hc (by omega)).mono ?_; rintro e w' ⟨rfl, rfl⟩)
    go_end0
    exact ⟨rfl, HF.out, Only.refl _ _⟩
theorem touch_calls (w : World) (p m : Nat) (ms : List Int) (h : Nat) (i : Int) (hc : ClkAt w p m ms h) :
    Calls Try.prog 10 #[.pointer (some ⟨p, 0, none⟩), .int .i64 i] w fun e w' => e = .returned (.tuple #[]) ∧ ClkAt w' p m (touchL ms i) h ∧ Only (ClkS p m) w w' := by
  by_cases hi : 0 ≤ i ∧ i < ms.length
  · obtain ⟨k, rfl⟩ := Int.eq_ofNat_of_zero_le hi.1
    have hk : k < ms.length := by omega
    have hc' := hc
    obtain ⟨h1, h2, h3, h4, h5, h6⟩ := hc
    have c0 := h5.cell 0
    simp only [List.getElem?_cons_zero] at c0
    have c1 := marks_cell h6 k hk
    have c2 := h6.free k
    by_cases hz : mk ms k = 0
    · have HF : Hid (ClkAt w p m (touchL ms k) h) := Lib.hid (by unfold touchL; rw [if_neg (by rintro ⟨_, _, h9⟩; rw [Int.toNat_natCast] at h9; exact h9 hz)]; exact hc')
      rw [hz] at c1
      clear h1 h3 h4 h5 h6 hz
      go_enter Try.func10, Try.ntmps10
      go_wp2_with (go_at_call 21; refine (there_yes _ p m ms h k hc' hk).mono ?_; rintro e w' ⟨rfl, rfl⟩)
      go_end0
      exact ⟨rfl, HF.out, Only.refl _ _⟩
    · have HF : Hid (ClkAt (w.setCell ⟨m, k, none⟩ (.int .u8 2)) p m (touchL ms k) h) := Lib.hid (by
        unfold touchL; rw [if_pos ⟨hi.1, hi.2, by rw [Int.toNat_natCast]; exact hz⟩, Int.toNat_natCast]
        exact ⟨h1, by simpa using h2, by simpa using h3, h4.set k 2 (.inr (.inr rfl)), by simpa using h5.set_other h1 k _, marks_set h6 k 2⟩)
      have HO : Hid (Only (ClkS p m) w (w.setCell ⟨m, k, none⟩ (.int .u8 2))) := Lib.hid ((Only.refl _ _).set (fun _ => .inr rfl) _)
      have hz' : (mk ms k != 0) = true := by simpa using hz
      clear h1 h3 h4 h5 h6 hz
      go_enter Try.func10, Try.ntmps10
      go_wp2_with (go_at_call 21; refine (there_yes _ p m ms h k hc' hk).mono ?_; rintro e w' ⟨rfl, rfl⟩)
      go_end0
      exact ⟨rfl, HF.out, HO.out⟩
  · have HF : Hid (ClkAt w p m (touchL ms i) h) := Lib.hid (by unfold touchL; rw [if_neg (by rintro ⟨a, b, _⟩; exact hi ⟨a, b⟩)]; exact hc)
    go_enter Try.func10, Try.ntmps10
    go_wp2_with (go_at_call 21; refine (there_no _ p m ms h i hc (by omega)).mono ?_; rintro e w' ⟨rfl, rfl⟩)
    go_end0
    exact ⟨rfl, HF.out, Only.refl _ _⟩
theorem hand_calls (w : World) (p m : Nat) (ms : List Int) (h : Nat) (hc : ClkAt w p m ms h) :
    Calls Try.prog 12 #[.pointer (some ⟨p, 0, none⟩)] w fun e w' => e = .returned (.int .i64 h) ∧ w = w' := by
  have c1 := hc.2.2.2.2.1.cell 1
  simp only [List.getElem?_cons_succ, List.getElem?_cons_zero] at c1
  clear hc
  go_enter Try.func12, Try.ntmps12
  go_wp2
  go_ret
  exact ⟨rfl, rfl⟩

theorem run_make1 {P : Program} (w : World) (t e : TypeId) (i : TypeInfo) (z u : Value) (ht : P.underlying t = some (.slice e)) (hi : P.info? e = some i) (hz : i.zero = some z) (hzc : z.cells = #[u]) (hs : i.size = 1)
    (n : Nat) (hb : i.bytes * n ≤ 281474976710656) (hn : n ≤ 9223372036854775807) :
    (Instr.makeSlice t (.int .i64 n) (.int .i64 n)).run P w = .ok (.slice (some ⟨w.heap.size, 0, none⟩) n n) (w.alloc (.cells (zrow n u) e)) := by
  have := run_make (P := P) w t e i z ht hi hz .i64 .i64 (n : Int) (n : Int) (by omega) (Int.le_refl _) (by rw [← Int.natCast_mul]; omega) (by omega)
  rw [Int.toNat_natCast, hs, Nat.mul_one] at this
  rw [this, hzc]
  congr 2
  unfold madeCells zrow
  congr 1
  apply Array.ext
  · simp
  · intro j h1 h2
    simp [Nat.mod_one]

set_option maxHeartbeats 400000 in
theorem new_yes (w : World) (n : Nat) (h1 : 1 ≤ n) (h2 : n ≤ 65536) :
    Calls Try.prog 8 #[.int .i64 n] w fun e w' => ∃ p m, e = .returned (.tuple #[.pointer (some ⟨p, 0, none⟩), .int .i64 0]) ∧ ClkAt w' p m (List.replicate n 0) 0 ∧ w.heap.size ≤ p ∧ w.heap.size ≤ m ∧ Below w.heap.size w w' := by
  obtain ⟨i0, hi, hz0, hz1, hz2⟩ := info_parts Try.info_mark
  have hmk := run_make1 (P := Try.prog) w 47 51 i0 _ (.int .u8 0) Try.underlying47 hi hz0 rfl hz1 n (by rw [hz2]; omega) (by omega)
  have HM : Hid (ClkAt ((w.alloc (.cells (zrow n (.int .u8 0)) 51)).alloc (.cells #[.slice (some ⟨w.heap.size, 0, none⟩) n n, .int .i64 0] 49)) (w.heap.size + 1) w.heap.size (List.replicate n 0) 0) := Lib.hid (by
    refine ⟨by omega, by simpa using h2, by simp; omega, marks_rep n, ?_, ?_⟩
    · have := Blk.new (w.alloc (.cells (zrow n (.int .u8 0)) 51)) #[.slice (some ⟨w.heap.size, 0, none⟩) n n, .int .i64 0] 49
      simpa using this
    · have := (Blk.new w (zrow n (.int .u8 0)) 51).alloc (.cells #[.slice (some ⟨w.heap.size, 0, none⟩) n n, .int .i64 0] 49)
      rw [zrow_toList] at this
      simpa using this)
  have HB : Hid (Below w.heap.size w ((w.alloc (.cells (zrow n (.int .u8 0)) 51)).alloc (.cells #[.slice (some ⟨w.heap.size, 0, none⟩) n n, .int .i64 0] 49))) := Lib.hid (((Below.refl _ _).alloc (Nat.le_refl _) _).alloc (by simp) _)
  clear hi hz0 hz1 hz2
  go_enter Try.func8, Try.ntmps8
  go_wp2
  go_ret2
  exact ⟨_, _, rfl, HM.out, by omega, by omega, HB.out⟩
theorem new_no (w : World) (n : Int) (h : n < 1 ∨ 65536 < n) :
    Calls Try.prog 8 #[.int .i64 n] w fun e w' => e = .returned (.tuple #[.pointer none, .int .i64 2]) ∧ w = w' := by
  rcases h with h | h
  · go_enter Try.func8, Try.ntmps8
    go_wp2
    go_ret2
    exact ⟨rfl, rfl⟩
  · have h' : ¬ n < 1 := by omega
    go_enter Try.func8, Try.ntmps8
    go_wp2
    go_ret2
    exact ⟨rfl, rfl⟩
end Go.Proofs.Ytooooidnchgkaaa
