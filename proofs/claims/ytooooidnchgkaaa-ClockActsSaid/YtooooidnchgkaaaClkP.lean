/- Package clock's Places, and the document's: what is in use, as a list. The document's clock in memory: New, Set, Touch, Places. -/
import Derived.Test.YtooooidnchgkaaaClkR
namespace Go.Proofs.Ytooooidnchgkaaa
open Go.RowKit
set_option linter.unusedVariables false

theorem placesTo_bd (ms : List Int) (n : Nat) (hn : n ≤ 65536) : ∀ z ∈ placesTo ms n, -9223372036854775808 ≤ z ∧ z ≤ 9223372036854775807 := by
  intro z hz
  unfold placesTo at hz
  obtain ⟨i, hi, rfl⟩ := List.mem_map.1 hz
  have := List.mem_range.1 (List.mem_filter.1 hi).1
  simp only [Int.ofNat_eq_natCast]
  omega

set_option maxHeartbeats 1000000 in
theorem places_calls (w : World) (p m : Nat) (ms : List Int) (h : Nat) (hc : ClkAt w p m ms h) :
    Calls Try.prog 19 #[.pointer (some ⟨p, 0, none⟩)] w fun e w' => ∃ a n cap, e = .returned (.slice a n cap) ∧ n ≤ 65536 ∧ IntsAt w' a n (placesTo ms ms.length) ∧ Below w.heap.size w w' := by
  have HK := Lib.hid hc
  have hms := hc.2.1
  obtain ⟨i0, hi, hz0, hz1, hz2⟩ := info_parts Try.info_int
  have c0 := hc.2.2.2.2.1.cell 0
  simp only [List.getElem?_cons_zero] at c0
  clear hc
  go_enter Try.func19, Try.ntmps19
  go_wp2_with fail
  go_loopg [3, 11] ms.length (fun g v i wr => ∃ j : Nat, g + j = ms.length ∧ i = .int .i64 j ∧ wr.ownsRow w.heap.size 3 1 v (placesTo ms j).length ((placesTo ms j).map (.int .i64)) ∧ Below w.heap.size w wr)
  case atStart => exact ⟨0, by omega, rfl, by simpa [placesTo] using World.ownsRow_nil _ _ _ _, Below.refl _ _⟩
  case round =>
    obtain ⟨j, hj, rfl, hown, hbel⟩ := hrel
    have hbw := hbel.size
    by_cases hlt : j < ms.length
    · have cj := marks_cell (HK.out.below hbel).2.2.2.2.2 j hlt
      have hs := Lib.hid (placesTo_succ ms j)
      have hle := placesTo_le ms j
      by_cases hz : mk ms j = 0
      · rw [hz] at cj
        have hs' : placesTo ms (j + 1) = placesTo ms j := by rw [hs.out, if_pos hz]
        have HS := Lib.hid hs'
        clear hs hs' hz
        go_wp2
        go_roundg (gk - 1)
        case measure => omega
        case rel => exact ⟨j + 1, by omega, by go_num, by rw [HS.out]; exact hown, hbel⟩
      · have hs' : placesTo ms (j + 1) = placesTo ms j ++ [(j : Int)] := by rw [hs.out, if_neg hz]
        have HS := Lib.hid hs'
        have hz' : (mk ms j != 0) = true := by simpa using hz
        clear hs hs' hz
        go_wp2_with (at_builtin; refine wpList_append1 rfl (.tmp 18) (.tmp 20) 31 rfl w.heap.size 3 i0 (.int .i64 0) 8 Try.underlying31 hi hz0 hz1 hz2 rfl u3 _ _ rfl hown rfl rfl (by omega) (by unfold maxLen; omega) (by omega) ?_; intro v' w1 hown1 hgr1 hne1)
        go_roundg (gk - 1)
        case measure => omega
        case rel =>
          refine ⟨j + 1, by omega, by go_num, ?_, hbel.grown hgr1 hbw (fun j hj => (hown.lt j hj).1)⟩
          rw [HS.out]
          simpa using hown1
    · obtain rfl : j = ms.length := by omega
      have hle := placesTo_le ms ms.length
      have hbd := Lib.hid (placesTo_bd ms ms.length hms)
      rcases ownsRow_form hown with ⟨rfl, hn0⟩ | ⟨g, cap, rfl, h1, h2, h3, h4⟩
      · have hnil : placesTo ms ms.length = [] := List.length_eq_zero_iff.1 hn0
        have HN := Lib.hid hnil
        clear hnil hown
        go_wp2_with (go_at_call 23; refine (clip_nil _).mono ?_; rintro e w' ⟨rfl, rfl⟩)
        go_ret
        exact ⟨_, _, _, rfl, by omega, by rw [HN.out]; exact IntsAt.nil _, hbel⟩
      · obtain ⟨a', cap', hv, hat, _⟩ := IntsAt.of_own hown hbd.out
        cases hv
        have HA := Lib.hid hat
        clear hat hown
        go_wp2_with (go_at_call 23; refine (clip_some _ _ _ _ h3 h4).mono ?_; rintro e w' ⟨rfl, rfl⟩)
        go_ret
        exact ⟨_, _, _, rfl, by omega, HA.out, hbel⟩

/-- The document's clock in memory. -/
def RefAt (w : World) (q u k : Nat) (ms : List Int) (h : Nat) : Prop :=
  q ≠ u ∧ q ≠ k ∧ u ≠ k ∧ ms.length ≤ 60 ∧ h < ms.length ∧ Blk w q [.slice (some ⟨u, 0, none⟩) ms.length ms.length, .slice (some ⟨k, 0, none⟩) ms.length ms.length, .int .i64 h] 43 ∧ Blk w u (ms.map fun x => .bool (x != 0)) 4 ∧ Blk w k (ms.map fun x => .bool (x == 2)) 4
def RefS (q u k : Nat) (i : Nat) : Prop := i = q ∨ i = u ∨ i = k
theorem RefAt.only {w w' : World} {q u k : Nat} {ms : List Int} {h : Nat} {S : Nat → Prop} (hc : RefAt w q u k ms h) (o : Only S w w') (h1 : ¬ S q) (h2 : ¬ S u) (h3 : ¬ S k) : RefAt w' q u k ms h :=
  ⟨hc.1, hc.2.1, hc.2.2.1, hc.2.2.2.1, hc.2.2.2.2.1, hc.2.2.2.2.2.1.only o h1, hc.2.2.2.2.2.2.1.only o h2, hc.2.2.2.2.2.2.2.only o h3⟩
theorem RefAt.below {w w' : World} {q u k : Nat} {ms : List Int} {h : Nat} (hc : RefAt w q u k ms h) (o : Below w.heap.size w w') : RefAt w' q u k ms h :=
  ⟨hc.1, hc.2.1, hc.2.2.1, hc.2.2.2.1, hc.2.2.2.2.1, hc.2.2.2.2.2.1.below o, hc.2.2.2.2.2.2.1.below o, hc.2.2.2.2.2.2.2.below o⟩
theorem use_cell {w : World} {u : Nat} {ms : List Int} {t : TypeId} {f : Int → Bool} (h : Blk w u (ms.map fun x => .bool (f x)) t) (i : Nat) (hi : i < ms.length) : w.cell? ⟨u, i, none⟩ = some (.bool (f (mk ms i))) := by
  rw [h.cell i]; simp [mk, hi]
theorem use_set {w : World} {u : Nat} {ms : List Int} {t : TypeId} {f : Int → Bool} (h : Blk w u (ms.map fun x => .bool (f x)) t) (i : Nat) (v : Int) (b : Bool) (hb : f v = b) : Blk (w.setCell ⟨u, i, none⟩ (.bool b)) u ((ms.set i v).map fun x => .bool (f x)) t := by
  have := h.set i (.bool b)
  rw [List.map_set, hb]
  exact this
/-- A row is as it was, where the new mark reads the same. -/
theorem use_same {w : World} {u : Nat} {ms : List Int} {t : TypeId} {f : Int → Bool} (h : Blk w u (ms.map fun x => .bool (f x)) t) (i : Nat) (v : Int) (hv : f v = f (mk ms i)) : Blk w u ((ms.set i v).map fun x => .bool (f x)) t := by
  have e : ((ms.set i v).map fun x => Value.bool (f x)) = (ms.map fun x => Value.bool (f x)) := by
    apply List.ext_getElem
    · simp
    · intro j h1 h2
      simp only [List.getElem_map, List.getElem_set]
      by_cases hij : i = j
      · subst hij
        rw [if_pos rfl, hv]
        simp only [List.length_map] at h2
        simp [mk, h2]
      · rw [if_neg hij]
  rw [e]; exact h

set_option maxHeartbeats 1000000 in
theorem refplaces_calls (w : World) (q u k : Nat) (ms : List Int) (h : Nat) (hc : RefAt w q u k ms h) :
    Calls Try.prog 20 #[.pointer (some ⟨q, 0, none⟩)] w fun e w' => ∃ a n cap, e = .returned (.slice a n cap) ∧ n ≤ 65536 ∧ IntsAt w' a n (placesTo ms ms.length) ∧ Below w.heap.size w w' := by
  have HK := Lib.hid hc
  have hms := hc.2.2.2.1
  have hqs := hc.2.2.2.2.2.1.lt
  obtain ⟨i0, hi, hz0, hz1, hz2⟩ := info_parts Try.info_int
  clear hc
  go_enter Try.func20, Try.ntmps20
  go_wp2_with fail
  go_loopg [3, 4] ms.length (fun g v i wr => ∃ j : Nat, g + j = ms.length ∧ i = .int .i64 j ∧ wr.ownsRow w.heap.size 3 1 v (placesTo ms j).length ((placesTo ms j).map (.int .i64)) ∧ Below w.heap.size w wr)
  case atStart => exact ⟨0, by omega, rfl, by simpa [placesTo] using World.ownsRow_nil _ _ _ _, Below.refl _ _⟩
  case round =>
    obtain ⟨j, hj, rfl, hown, hbel⟩ := hrel
    have hbw := hbel.size
    have c0 := (HK.out.below hbel).2.2.2.2.2.1.cell 0
    simp only [List.getElem?_cons_zero] at c0
    by_cases hlt : j < ms.length
    · have cj := use_cell (f := fun x => x != 0) (HK.out.below hbel).2.2.2.2.2.2.1 j hlt
      have hs := Lib.hid (placesTo_succ ms j)
      have hle := placesTo_le ms j
      by_cases hz : mk ms j = 0
      · have hz' : (mk ms j != 0) = false := by simpa using hz
        simp only [hz'] at cj
        have hs' : placesTo ms (j + 1) = placesTo ms j := by rw [hs.out, if_pos hz]
        have HS := Lib.hid hs'
        clear hs hs' hz hz'
        go_wp2
        go_roundg (gk - 1)
        case measure => omega
        case rel => exact ⟨j + 1, by omega, by go_num, by rw [HS.out]; exact hown, hbel⟩
      · have hs' : placesTo ms (j + 1) = placesTo ms j ++ [(j : Int)] := by rw [hs.out, if_neg hz]
        have HS := Lib.hid hs'
        have hz' : (mk ms j != 0) = true := by simpa using hz
        simp only [hz'] at cj
        clear hs hs' hz hz'
        go_wp2_with (at_builtin; refine wpList_append1 rfl (.tmp 21) (.tmp 23) 31 rfl w.heap.size 3 i0 (.int .i64 0) 8 Try.underlying31 hi hz0 hz1 hz2 rfl u3 _ _ rfl hown rfl rfl (by omega) (by unfold maxLen; omega) (by omega) ?_; intro v' w1 hown1 hgr1 hne1)
        go_roundg (gk - 1)
        case measure => omega
        case rel =>
          refine ⟨j + 1, by omega, by go_num, ?_, hbel.grown hgr1 hbw (fun j hj => (hown.lt j hj).1)⟩
          rw [HS.out]
          simpa using hown1
    · obtain rfl : j = ms.length := by omega
      have hle := placesTo_le ms ms.length
      have hbd := Lib.hid (placesTo_bd ms ms.length (by omega))
      obtain ⟨a', cap', rfl, hat, _⟩ := IntsAt.of_own hown hbd.out
      have HA := Lib.hid hat
      clear hat hown
      go_wp2
      go_ret
      exact ⟨_, _, _, rfl, by omega, HA.out, hbel⟩

theorem Try.info_bool : (Try.prog.info? 4).map (fun i => (i.zero, i.size, i.bytes)) = some (some (.bool false), 1, 1) := by kernel_rfl
theorem ref_new (w : World) (n a b : Nat) (h1 : 1 ≤ n) (h2 : n ≤ 60) (hab : (a = w.heap.size ∧ b = w.heap.size + 1) ∨ (a = w.heap.size + 1 ∧ b = w.heap.size)) :
    RefAt (((w.alloc (.cells (zrow n (.bool false)) 4)).alloc (.cells (zrow n (.bool false)) 4)).alloc (.cells #[.slice (some ⟨a, 0, none⟩) n n, .slice (some ⟨b, 0, none⟩) n n, .int .i64 0] 43)).drew (w.heap.size + 1 + 1) a b (List.replicate n 0) 0 ∧
    Below w.heap.size w (((w.alloc (.cells (zrow n (.bool false)) 4)).alloc (.cells (zrow n (.bool false)) 4)).alloc (.cells #[.slice (some ⟨a, 0, none⟩) n n, .slice (some ⟨b, 0, none⟩) n n, .int .i64 0] 43)).drew := by
  have e0 : ((List.replicate n (0 : Int)).map fun x => Value.bool (x != 0)) = List.replicate n (.bool false) := by rw [List.map_replicate]; rfl
  have e2 : ((List.replicate n (0 : Int)).map fun x => Value.bool (x == 2)) = List.replicate n (.bool false) := by rw [List.map_replicate]; rfl
  have b0 := ((Blk.new w (zrow n (.bool false)) 4).alloc (.cells (zrow n (.bool false)) 4)).alloc (.cells #[.slice (some ⟨a, 0, none⟩) n n, .slice (some ⟨b, 0, none⟩) n n, .int .i64 0] 43)
  have b1 := (Blk.new (w.alloc (.cells (zrow n (.bool false)) 4)) (zrow n (.bool false)) 4).alloc (.cells #[.slice (some ⟨a, 0, none⟩) n n, .slice (some ⟨b, 0, none⟩) n n, .int .i64 0] 43)
  have b2 := Blk.new ((w.alloc (.cells (zrow n (.bool false)) 4)).alloc (.cells (zrow n (.bool false)) 4)) #[.slice (some ⟨a, 0, none⟩) n n, .slice (some ⟨b, 0, none⟩) n n, .int .i64 0] 43
  have s1 : (w.alloc (.cells (zrow n (.bool false)) 4)).heap.size = w.heap.size + 1 := by simp
  have s2 : ((w.alloc (.cells (zrow n (.bool false)) 4)).alloc (.cells (zrow n (.bool false)) 4)).heap.size = w.heap.size + 1 + 1 := by simp
  rw [s1] at b1
  rw [s2] at b2
  rw [zrow_toList] at b0 b1
  refine ⟨⟨by omega, by omega, by omega, by simpa using h2, by simp; omega, by simpa using b2.drew, ?_, ?_⟩, ((((Below.refl _ _).alloc (Nat.le_refl _) _).alloc (by simp) _).alloc (by rw [s2]; omega) _).drew⟩
  · rw [e0]
    rcases hab with ⟨rfl, rfl⟩ | ⟨rfl, rfl⟩
    · exact b0.drew
    · exact b1.drew
  · rw [e2]
    rcases hab with ⟨rfl, rfl⟩ | ⟨rfl, rfl⟩
    · exact b1.drew
    · exact b0.drew
theorem refnew_calls (w : World) (n : Nat) (h1 : 1 ≤ n) (h2 : n ≤ 60) :
    Calls Try.prog 14 #[.int .i64 n] w fun e w' => ∃ q u k, e = .returned (.pointer (some ⟨q, 0, none⟩)) ∧ RefAt w' q u k (List.replicate n 0) 0 ∧ w.heap.size ≤ q ∧ w.heap.size ≤ u ∧ w.heap.size ≤ k ∧ Below w.heap.size w w' := by
  obtain ⟨i0, hi, hz0, hz1, hz2⟩ := info_parts Try.info_bool
  have hmk : ∀ w, (Instr.makeSlice 41 (.int .i64 n) (.int .i64 n)).run Try.prog w = .ok (.slice (some ⟨w.heap.size, 0, none⟩) n n) (w.alloc (.cells (zrow n (.bool false)) 4)) := fun w =>
    run_make1 (P := Try.prog) w 41 4 i0 _ (.bool false) Try.underlying41 hi hz0 rfl hz1 n (by rw [hz2]; omega) (by omega)
  clear hi hz0 hz1 hz2
  go_enter Try.func14, Try.ntmps14
  go_wp2_with fail
  go_region
  · have H := Lib.hid (ref_new w n w.heap.size (w.heap.size + 1) h1 h2 (.inl ⟨rfl, rfl⟩))
    go_wp2
    go_ret
    exact ⟨_, _, _, rfl, H.out.1, by omega, by omega, by omega, H.out.2⟩
  · have H := Lib.hid (ref_new w n (w.heap.size + 1) w.heap.size h1 h2 (.inr ⟨rfl, rfl⟩))
    go_wp2
    go_ret
    exact ⟨_, _, _, rfl, H.out.1, by omega, by omega, by omega, H.out.2⟩

theorem refset_calls (w : World) (q u k : Nat) (ms : List Int) (h : Nat) (i : Int) (v : Int) (b c : Bool) (hb : (v != 0) = b) (hcc : (v == 2) = c) (hc : RefAt w q u k ms h) :
    Calls Try.prog 15 #[.pointer (some ⟨q, 0, none⟩), .int .i64 i, .bool b, .bool c] w fun e w' => e = .returned (.tuple #[]) ∧ RefAt w' q u k (setL ms i v) h ∧ Only (RefS q u k) w w' := by
  by_cases hi : 0 ≤ i ∧ i < ms.length
  · obtain ⟨j, rfl⟩ := Int.eq_ofNat_of_zero_le hi.1
    have hj : j < ms.length := by omega
    obtain ⟨g1, g2, g3, g4, g5, g6, g7, g8⟩ := hc
    have c0 := g6.cell 0
    simp only [List.getElem?_cons_zero] at c0
    have c1 := use_cell (f := fun x => x != 0) g7 j hj
    have f1 := g7.free j
    have s0 := (g6.set_other (c := u) g1 j (.bool b)).cell 1
    simp only [List.getElem?_cons_succ, List.getElem?_cons_zero] at s0
    have g8' := g8.set_other (c := u) (fun e => g3 e.symm) j (.bool b)
    have s1 := use_cell (f := fun x => x == 2) g8' j hj
    have s2 := g8'.free j
    have HF : Hid (RefAt ((w.setCell ⟨u, j, none⟩ (.bool b)).setCell ⟨k, j, none⟩ (.bool c)) q u k (setL ms j v) h) := Lib.hid (by
      unfold setL; rw [if_pos hi, Int.toNat_natCast]
      refine ⟨g1, g2, g3, by simpa using g4, by simpa using g5, ?_, ?_, ?_⟩
      · simpa using (g6.set_other (c := u) g1 j (.bool b)).set_other (c := k) g2 j (.bool c)
      · exact (use_set (f := fun x => x != 0) g7 j v b hb).set_other (c := k) g3 j (.bool c)
      · exact use_set (f := fun x => x == 2) g8' j v c hcc)
    have HO : Hid (Only (RefS q u k) w ((w.setCell ⟨u, j, none⟩ (.bool b)).setCell ⟨k, j, none⟩ (.bool c))) := Lib.hid (((Only.refl _ _).set (fun _ => .inr (.inl rfl)) _).set (fun _ => .inr (.inr rfl)) _)
    have g4' : ms.length ≤ 60 := g4
    clear g1 g2 g3 g4 g5 g6 g7 g8 g8' hb hcc
    go_enter Try.func15, Try.ntmps15
    go_wp2
    go_end0
    exact ⟨rfl, HF.out, HO.out⟩
  · have HF : Hid (RefAt w q u k (setL ms i v) h) := Lib.hid (by unfold setL; rw [if_neg hi]; exact hc)
    have g4 := hc.2.2.2.1
    have c0 := hc.2.2.2.2.2.1.cell 0
    simp only [List.getElem?_cons_zero] at c0
    clear hc
    by_cases h0 : 0 ≤ i
    · have h1 : (ms.length : Int) ≤ i := by omega
      clear hi
      go_enter Try.func15, Try.ntmps15
      go_wp2
      go_end0
      exact ⟨rfl, HF.out, Only.refl _ _⟩
    · clear hi
      go_enter Try.func15, Try.ntmps15
      go_wp2
      go_end0
      exact ⟨rfl, HF.out, Only.refl _ _⟩

theorem reftouch_calls (w : World) (q u k : Nat) (ms : List Int) (h : Nat) (i : Int) (hc : RefAt w q u k ms h) :
    Calls Try.prog 16 #[.pointer (some ⟨q, 0, none⟩), .int .i64 i] w fun e w' => e = .returned (.tuple #[]) ∧ RefAt w' q u k (touchL ms i) h ∧ Only (RefS q u k) w w' := by
  by_cases hi : 0 ≤ i ∧ i < ms.length
  · obtain ⟨j, rfl⟩ := Int.eq_ofNat_of_zero_le hi.1
    have hj : j < ms.length := by omega
    have hc' := Lib.hid hc
    obtain ⟨g1, g2, g3, g4, g5, g6, g7, g8⟩ := hc
    have c0 := g6.cell 0
    have c1 := g6.cell 1
    simp only [List.getElem?_cons_zero, List.getElem?_cons_succ] at c0 c1
    have cu := use_cell (f := fun x => x != 0) g7 j hj
    have ck := use_cell (f := fun x => x == 2) g8 j hj
    have fk := g8.free j
    by_cases hz : mk ms j = 0
    · have HF : Hid (RefAt w q u k (touchL ms j) h) := Lib.hid (by unfold touchL; rw [if_neg (by rintro ⟨_, _, h9⟩; rw [Int.toNat_natCast] at h9; exact h9 hz)]; exact hc'.out)
      have hz' : (mk ms j != 0) = false := by simpa using hz
      simp only [hz'] at cu
      clear g1 g2 g3 g5 g6 g7 g8 hz hz' hc'
      go_enter Try.func16, Try.ntmps16
      go_wp2
      go_end0
      exact ⟨rfl, HF.out, Only.refl _ _⟩
    · have hz' : (mk ms j != 0) = true := by simpa using hz
      have HF : Hid (RefAt (w.setCell ⟨k, j, none⟩ (.bool true)) q u k (touchL ms j) h) := Lib.hid (by
        unfold touchL; rw [if_pos ⟨hi.1, hi.2, by rw [Int.toNat_natCast]; exact hz⟩, Int.toNat_natCast]
        refine ⟨g1, g2, g3, by simpa using g4, by simpa using g5, ?_, ?_, ?_⟩
        · simpa using g6.set_other (c := k) g2 j (.bool true)
        · exact (use_same (f := fun x => x != 0) g7 j 2 (by rw [hz']; rfl)).set_other (c := k) g3 j (.bool true)
        · exact use_set (f := fun x => x == 2) g8 j 2 true rfl)
      have HO : Hid (Only (RefS q u k) w (w.setCell ⟨k, j, none⟩ (.bool true))) := Lib.hid ((Only.refl _ _).set (fun _ => .inr (.inr rfl)) _)
      simp only [hz'] at cu
      clear g1 g2 g3 g5 g6 g7 g8 hz hz' hc'
      go_enter Try.func16, Try.ntmps16
      go_wp2
      go_end0
      exact ⟨rfl, HF.out, HO.out⟩
  · have HF : Hid (RefAt w q u k (touchL ms i) h) := Lib.hid (by unfold touchL; rw [if_neg (by rintro ⟨a, b, _⟩; exact hi ⟨a, b⟩)]; exact hc)
    have g4 := hc.2.2.2.1
    have c0 := hc.2.2.2.2.2.1.cell 0
    simp only [List.getElem?_cons_zero] at c0
    clear hc
    by_cases h0 : 0 ≤ i
    · have h1 : (ms.length : Int) ≤ i := by omega
      clear hi
      go_enter Try.func16, Try.ntmps16
      go_wp2
      go_end0
      exact ⟨rfl, HF.out, Only.refl _ _⟩
    · clear hi
      go_enter Try.func16, Try.ntmps16
      go_wp2
      go_end0
      exact ⟨rfl, HF.out, Only.refl _ _⟩
end Go.Proofs.Ytooooidnchgkaaa
