/- The walk of ClockActs over the contracts. -/
import Derived.Test.YtooooidnchgkaaaClkU
import Derived.Deep.CutBlock
import Derived.Deep.DeepCutAuto
import Derived.BigRegion
namespace Go.Proofs.Ytooooidnchgkaaa
open Go.RowKit
set_option linter.unusedVariables false

theorem vicR_length {held ms ms' : List Int} {h h' : Nat} {v : Int} (hv : VicR held ms h ms' h' v) (hh : h < ms.length) (hm : Marks ms) : ms'.length = ms.length := by
  rcases hv with ⟨_, rfl, _⟩ | ⟨k, i, _, hr, _⟩
  · rfl
  · exact (vrun_facts held k ms h _ hr hh hm).1
/-- Who lies where: the clock's blocks, the document's, the act's, the held places'. -/
def Dist (w0 : World) (p m g u x A : Nat) (s : Option Addr) (sl : Nat) : Prop :=
  (w0.heap.size ≤ p ∧ w0.heap.size ≤ m ∧ w0.heap.size ≤ g ∧ w0.heap.size ≤ u ∧ w0.heap.size ≤ x ∧ w0.heap.size ≤ A) ∧ (p ≠ g ∧ p ≠ u ∧ p ≠ x ∧ m ≠ g ∧ m ≠ u ∧ m ≠ x ∧ A ≠ p ∧ A ≠ m ∧ A ≠ g ∧ A ≠ u ∧ A ≠ x) ∧ (∀ b o, s = some ⟨b, o, none⟩ → 0 < sl → b < w0.heap.size)
def Both (w0 w : World) (p m g u x A : Nat) (cs : List Value) (t : TypeId) (s : Option Addr) (sl : Nat) (ts : List Int) (ms : List Int) (h : Nat) (ms2 : List Int) (h2 : Nat) : Prop :=
  ClkAt w p m ms h ∧ RefAt w g u x ms2 h2 ∧ Blk w A cs t ∧ IntsAt w s sl ts ∧ Below w0.heap.size w0 w
section
variable {w0 w : World} {p m g u x A : Nat} {cs : List Value} {t : TypeId} {s : Option Addr} {sl : Nat} {ts ms ms2 : List Int} {h h2 : Nat}
theorem Both.clk {w' : World} {ms' : List Int} {h' : Nat} (hD : Dist w0 p m g u x A s sl) (hB : Both w0 w p m g u x A cs t s sl ts ms h ms2 h2) (hc : ClkAt w' p m ms' h') (ho : Only (ClkS p m) w w') : Both w0 w' p m g u x A cs t s sl ts ms' h' ms2 h2 := by
  obtain ⟨⟨a1, a2, a3, a4, a5, a6⟩, ⟨b1, b2, b3, b4, b5, b6, b7, b8, b9, b10, b11⟩, c⟩ := hD
  obtain ⟨h1, h2, h3, h4, h5⟩ := hB
  refine ⟨hc, h2.only ho (by rintro (h | h); exact b1 h.symm; exact b4 h.symm) (by rintro (h | h); exact b2 h.symm; exact b5 h.symm) (by rintro (h | h); exact b3 h.symm; exact b6 h.symm), h3.only ho (by rintro (h | h); exact b7 h; exact b8 h), h4.only ho (fun b o e hp hs => ?_), bel_only h5 ho (Nat.le_refl _) (fun i => ClkS_lt a1 a2)⟩
  have := c b o e hp
  rcases hs with h | h <;> omega
theorem Both.ref {w' : World} {ms' : List Int} {h' : Nat} (hD : Dist w0 p m g u x A s sl) (hB : Both w0 w p m g u x A cs t s sl ts ms h ms2 h2) (hc : RefAt w' g u x ms' h') (ho : Only (RefS g u x) w w') : Both w0 w' p m g u x A cs t s sl ts ms h ms' h' := by
  obtain ⟨⟨a1, a2, a3, a4, a5, a6⟩, ⟨b1, b2, b3, b4, b5, b6, b7, b8, b9, b10, b11⟩, c⟩ := hD
  obtain ⟨h1, h2, h3, h4, h5⟩ := hB
  refine ⟨h1.only ho (by rintro (h | h | h); exact b1 h; exact b2 h; exact b3 h) (by rintro (h | h | h); exact b4 h; exact b5 h; exact b6 h), hc, h3.only ho (by rintro (h | h | h); exact b9 h; exact b10 h; exact b11 h), h4.only ho (fun b o e hp hs => ?_), bel_only h5 ho (Nat.le_refl _) (fun i hi => ?_)⟩
  · have := c b o e hp
    rcases hs with h | h | h <;> omega
  · rcases hi with h | h | h <;> omega
theorem Both.drew (hB : Both w0 w p m g u x A cs t s sl ts ms h ms2 h2) : Both w0 w.drew p m g u x A cs t s sl ts ms h ms2 h2 := ⟨hB.1, hB.2.1, hB.2.2.1, hB.2.2.2.1, hB.2.2.2.2.drew⟩
theorem Both.cell1 {v0 v1 v2 : Value} (hB : Both w0 w p m g u x A [v0, v1, v2] t s sl ts ms h ms2 h2) : w.cell? ⟨A, 1, none⟩ = some v1 := by
  have := hB.2.2.1.cell 1
  simpa using this
theorem Both.cell2 {v0 v1 v2 : Value} (hB : Both w0 w p m g u x A [v0, v1, v2] t s sl ts ms h ms2 h2) : w.cell? ⟨A, 2, none⟩ = some v2 := by
  have := hB.2.2.1.cell 2
  simpa using this
theorem add_both (hD : Dist w0 p m g u x A s sl) (hB : Both w0 w p m g u x A cs t s sl ts ms h ms2 h2) (i : Int) :
    Calls Try.prog 9 #[.pointer (some ⟨p, 0, none⟩), .int .i64 i] w fun e w' => e = .returned (.tuple #[]) ∧ Both w0 w' p m g u x A cs t s sl ts (setL ms i 1) h ms2 h2 :=
  (add_calls w p m ms h i hB.1).mono fun e w' ⟨he, hc, ho⟩ => ⟨he, hB.clk hD hc ho⟩
theorem touch_both (hD : Dist w0 p m g u x A s sl) (hB : Both w0 w p m g u x A cs t s sl ts ms h ms2 h2) (i : Int) :
    Calls Try.prog 10 #[.pointer (some ⟨p, 0, none⟩), .int .i64 i] w fun e w' => e = .returned (.tuple #[]) ∧ Both w0 w' p m g u x A cs t s sl ts (touchL ms i) h ms2 h2 :=
  (touch_calls w p m ms h i hB.1).mono fun e w' ⟨he, hc, ho⟩ => ⟨he, hB.clk hD hc ho⟩
theorem remove_both (hD : Dist w0 p m g u x A s sl) (hB : Both w0 w p m g u x A cs t s sl ts ms h ms2 h2) (i : Int) :
    Calls Try.prog 13 #[.pointer (some ⟨p, 0, none⟩), .int .i64 i] w fun e w' => e = .returned (.tuple #[]) ∧ Both w0 w' p m g u x A cs t s sl ts (setL ms i 0) h ms2 h2 :=
  (remove_calls w p m ms h i hB.1).mono fun e w' ⟨he, hc, ho⟩ => ⟨he, hB.clk hD hc ho⟩
theorem refset_both (hD : Dist w0 p m g u x A s sl) (hB : Both w0 w p m g u x A cs t s sl ts ms h ms2 h2) (i v : Int) (b c : Bool) (hb : (v != 0) = b) (hcc : (v == 2) = c) :
    Calls Try.prog 15 #[.pointer (some ⟨g, 0, none⟩), .int .i64 i, .bool b, .bool c] w fun e w' => e = .returned (.tuple #[]) ∧ Both w0 w' p m g u x A cs t s sl ts ms h (setL ms2 i v) h2 :=
  (refset_calls w g u x ms2 h2 i v b c hb hcc hB.2.1).mono fun e w' ⟨he, hc, ho⟩ => ⟨he, hB.ref hD hc ho⟩
theorem reftouch_both (hD : Dist w0 p m g u x A s sl) (hB : Both w0 w p m g u x A cs t s sl ts ms h ms2 h2) (i : Int) :
    Calls Try.prog 16 #[.pointer (some ⟨g, 0, none⟩), .int .i64 i] w fun e w' => e = .returned (.tuple #[]) ∧ Both w0 w' p m g u x A cs t s sl ts ms h (touchL ms2 i) h2 :=
  (reftouch_calls w g u x ms2 h2 i hB.2.1).mono fun e w' ⟨he, hc, ho⟩ => ⟨he, hB.ref hD hc ho⟩
theorem victim_both (hD : Dist w0 p m g u x A s sl) (hB : Both w0 w p m g u x A cs t s sl ts ms h ms2 h2) (hsl : sl ≤ 60) (sc : Nat) :
    Calls Try.prog 11 #[.pointer (some ⟨p, 0, none⟩), .slice s sl sc] w fun e w' => ∃ ms' h' v, e = .returned (.int .i64 v) ∧ Hid (VicR ts ms h ms' h' v) ∧ Both w0 w' p m g u x A cs t s sl ts ms' h' ms2 h2 :=
  (victim_calls w p m ms h s sl sc ts hB.1 hB.2.2.2.1 hsl).mono fun e w' ⟨ms', h', v, he, hv, hc, ho⟩ => ⟨ms', h', v, he, Lib.hid hv, hB.clk hD hc ho⟩
theorem refvictim_both (hD : Dist w0 p m g u x A s sl) (hB : Both w0 w p m g u x A cs t s sl ts ms h ms2 h2) (hsl : sl ≤ 60) (hm : Marks ms2) (sc : Nat) :
    Calls Try.prog 17 #[.pointer (some ⟨g, 0, none⟩), .slice s sl sc] w fun e w' => ∃ ms' h' v, e = .returned (.int .i64 v) ∧ Hid (VicR ts ms2 h2 ms' h' v) ∧ Both w0 w' p m g u x A cs t s sl ts ms h ms' h' :=
  (refvictim_calls w g u x ms2 h2 s sl sc ts hB.2.1 hm hB.2.2.2.1 (fun b o e hp hs => by
    obtain ⟨⟨a1, a2, a3, a4, a5, a6⟩, _, c⟩ := hD
    have := c b o e hp
    rcases hs with h | h | h <;> omega) hsl).mono fun e w' ⟨ms', h', v, he, hv, hc, ho⟩ => ⟨ms', h', v, he, Lib.hid hv, hB.ref hD hc ho⟩
end
/-- The two, behind an act. -/
def Pair (w0 w : World) (p m g u x : Nat) (ms : List Int) (h : Nat) : Prop := ClkAt w p m ms h ∧ RefAt w g u x ms h ∧ Below w0.heap.size w0 w
section
variable {w0 w : World} {p m g u x : Nat} {ms : List Int} {h : Nat}
theorem Pair.next {w' : World} (hP : Pair w0 w p m g u x ms h) (hb : Below w.heap.size w w') : Pair w0 w' p m g u x ms h :=
  ⟨hP.1.below hb, hP.2.1.below hb, bel_next hP.2.2 hb (Nat.le_refl _)⟩
theorem Pair.drewN (hP : Pair w0 w p m g u x ms h) (n : Nat) : Pair w0 (w.drewN n) p m g u x ms h := ⟨hP.1, hP.2.1, below_drewN hP.2.2 n⟩
theorem Pair.drew (hP : Pair w0 w p m g u x ms h) : Pair w0 w.drew p m g u x ms h := ⟨hP.1, hP.2.1, hP.2.2.drew⟩
theorem first_of {w' : World} {a : Option Addr} {n : Nat} {l : List Int} (h : IntsAt w a n l) (hb : Below w.heap.size w w') : IntsAt w' a n l := h.below hb
theorem hand_pair (hP : Pair w0 w p m g u x ms h) : Calls Try.prog 12 #[.pointer (some ⟨p, 0, none⟩)] w fun e w' => e = .returned (.int .i64 h) ∧ w = w' := hand_calls w p m ms h hP.1
theorem places_pair (hP : Pair w0 w p m g u x ms h) : Calls Try.prog 19 #[.pointer (some ⟨p, 0, none⟩)] w fun e w' => ∃ a n cap, e = .returned (.slice a n cap) ∧ n ≤ 65536 ∧ IntsAt w' a n (placesTo ms ms.length) ∧ Below w.heap.size w w' ∧ Pair w0 w' p m g u x ms h :=
  (places_calls w p m ms h hP.1).mono fun e w' ⟨a, n, cap, he, hn, hi, hb⟩ => ⟨a, n, cap, he, hn, hi, hb, hP.next hb⟩
theorem refplaces_pair (hP : Pair w0 w p m g u x ms h) : Calls Try.prog 20 #[.pointer (some ⟨g, 0, none⟩)] w fun e w' => ∃ a n cap, e = .returned (.slice a n cap) ∧ n ≤ 65536 ∧ IntsAt w' a n (placesTo ms ms.length) ∧ Below w.heap.size w w' ∧ Pair w0 w' p m g u x ms h :=
  (refplaces_calls w g u x ms h hP.2.1).mono fun e w' ⟨a, n, cap, he, hn, hi, hb⟩ => ⟨a, n, cap, he, hn, hi, hb, hP.next hb⟩
theorem ints_pair (hP : Pair w0 w p m g u x ms h) {a1 a2 : Option Addr} {n1 c1 n2 c2 : Nat} {l : List Int} (h1 : IntsAt w a1 n1 l) (h2 : IntsAt w a2 n2 l) (l1 : n1 ≤ 65536) (l2 : n2 ≤ 65536) :
    Calls Try.prog 18 #[.slice a1 n1 c1, .slice a2 n2 c2] w fun e w' => e = .returned (.bool true) ∧ Pair w0 w' p m g u x ms h :=
  (ints_calls w a1 n1 c1 l a2 n2 c2 l h1 h2 (by omega) (by omega)).mono fun e w' ⟨he, hb⟩ => ⟨by rw [he, decide_eq_true rfl], hP.next hb⟩
end

set_option maxRecDepth 8000 in
set_option maxHeartbeats 4000000 in
theorem acts_walk (n : Int) (v : Value) (q : Option Addr × Nat × Nat) (w : World) (wn : (Lit.int .i64 n).wf = true) (hA : ActsAt w v q) :
    Calls Try.prog 6 #[.int .i64 n, v] w fun e w' => e = .returned (.bool true) ∧ Below w.heap.size w w' := by
  obtain ⟨hn1, hn2⟩ := wf_i64 wn
  obtain ⟨a, len, cap⟩ := q
  obtain ⟨rfl, hlen, hrows⟩ := hA
  have hlen : len ≤ 9223372036854775807 := hlen
  have HR := Lib.hid hrows
  clear wn hrows
  by_cases hl : 40 < len
  · go_enter Try.func6, Try.ntmps6
    go_wp2_with fail
    refine (awake_calls21 _).mono ?_
    rintro e w1 ⟨rfl, hb1⟩
    go_wp2_with fail
    refine (awake_calls21 _).mono ?_
    rintro e w2 ⟨rfl, hb2⟩
    go_wp2
    go_ret
    exact ⟨rfl, bel_next hb1 hb2 (Nat.le_refl _)⟩
  · by_cases hn : n < 1 ∨ 65536 < n
    · have hno := Lib.hid hn
      rcases hn with hn | hn
      · go_enter Try.func6, Try.ntmps6
        go_wp2_with fail
        refine (awake_calls21 _).mono ?_
        rintro e w1 ⟨rfl, hb1⟩
        go_wp2_with fail
        refine (new_no _ n hno.out).mono ?_
        rintro e w2 ⟨rfl, rfl⟩
        go_wp2
        go_ret
        exact ⟨rfl, hb1⟩
      · have hn' : ¬ n < 1 := by omega
        go_enter Try.func6, Try.ntmps6
        go_wp2_with fail
        refine (awake_calls21 _).mono ?_
        rintro e w1 ⟨rfl, hb1⟩
        go_wp2_with fail
        refine (new_no _ n hno.out).mono ?_
        rintro e w2 ⟨rfl, rfl⟩
        go_wp2
        go_ret
        exact ⟨rfl, hb1⟩
    · obtain ⟨k, rfl⟩ := Int.eq_ofNat_of_zero_le (show 0 ≤ n by omega)
      have hk : 1 ≤ k ∧ k ≤ 65536 := by omega
      clear hn hn1 hn2
      by_cases hk60 : 60 < k
      · go_enter Try.func6, Try.ntmps6
        go_wp2_with fail
        refine (awake_calls21 _).mono ?_
        rintro e w1 ⟨rfl, hb1⟩
        go_wp2_with fail
        refine (new_yes _ k hk.1 hk.2).mono ?_
        rintro e w2 ⟨p, m, rfl, hc, hp, hm, hb2⟩
        go_wp2
        go_ret
        exact ⟨rfl, bel_next hb1 hb2 (Nat.le_refl _)⟩
      · go_enter Try.func6, Try.ntmps6
        go_wp2_with fail
        refine (awake_calls21 _).mono ?_
        rintro e w1 ⟨rfl, hb1⟩
        have HB1 := Lib.hid hb1
        clear hb1
        go_wp2_with fail
        refine (new_yes _ k hk.1 hk.2).mono ?_
        rintro e w2 ⟨p, m, rfl, hc, hp, hm, hb2⟩
        have HC := Lib.hid hc
        have HB2 := Lib.hid (bel_next HB1.out hb2 (Nat.le_refl _))
        have hwp : w.heap.size ≤ p ∧ w.heap.size ≤ m := by have := HB1.out.size; omega
        clear hc hb2 hp hm
        go_wp2_with fail
        refine (refnew_calls _ k hk.1 (by omega)).mono ?_
        rintro e w3 ⟨g, u, x, rfl, hr, h1, h2, h3, hb3⟩
        have hcl := HC.out
        have hdis : w.heap.size ≤ g ∧ w.heap.size ≤ u ∧ w.heap.size ≤ x ∧ p < g ∧ p < u ∧ p < x ∧ m < g ∧ m < u ∧ m < x := by
          have := HB2.out.size
          have e1 := hcl.2.2.2.2.1.lt
          have e2 := hcl.2.2.2.2.2.lt
          omega
        have HC3 := Lib.hid (hcl.below hb3)
        have HRf := Lib.hid hr
        have HB3 := Lib.hid (bel_next HB2.out hb3 (Nat.le_refl _))
        have HDis := Lib.hid hdis
        have HWp := Lib.hid hwp
        clear hcl hr hb3 h1 h2 h3 hdis hwp HB1 HB2 HC
        go_wp2_with fail
        go_loopg [8] len (fun gk i wr => ∃ (j : Nat) (ms : List Int) (h : Nat), gk + j = len ∧ i = .int .i64 j ∧ ms.length = k ∧ ClkAt wr p m ms h ∧ RefAt wr g u x ms h ∧ Below w.heap.size w wr)
        case atStart => exact ⟨0, _, _, by omega, rfl, by simp, HC3.out, HRf.out, HB3.out⟩
        case round =>
          obtain ⟨j, ms, h, hj, rfl, hml, hck, hrf, hbe⟩ := hrel
          have HML := Lib.hid hml
          have HCK := Lib.hid hck
          have HRF := Lib.hid hrf
          have HBE := Lib.hid hbe
          clear hml hck hrf hbe
          by_cases hlt : j < len
          · obtain ⟨b, o, ha, hbl, hcells⟩ := (HR.out).resolve_left (by show ¬ len = 0; omega)
            obtain ⟨kd, pl, s, sl, sc, zs, ⟨c0, c1, c2⟩, hkd, hpl, hrow⟩ := hcells j hlt
            have hbl : b < w.heap.size := hbl
            have ha : a = some ⟨b, o, none⟩ := ha
            have d0 := (HBE.out.cell (p := ⟨b, o + j * 3, none⟩) hbl).trans c0
            have d1 := (HBE.out.cell (p := ⟨b, o + j * 3 + 1, none⟩) hbl).trans c1
            have d2 := (HBE.out.cell (p := ⟨b, o + j * 3 + 2, none⟩) hbl).trans c2
            have hz := IntsAt.of_row hrow
            generalize zs.take sl = ts at hz
            have HZ := Lib.hid hz
            clear hcells c0 c1 c2 hrow hz hbl
            subst ha
            by_cases hsl : 60 < sl
            · go_wp2
              go_ret
              exact ⟨rfl, HBE.out.alloc HBE.out.size _⟩
            · have hsl' : sl ≤ 60 := by omega
              clear hsl
              go_upto_block 2 with fail
              go_cut [10] (fun s10 wx => s10 = .bool true ∧ ∃ ms' h', ms'.length = k ∧ Pair w wx p m g u x ms' h')
              case first =>
                generalize hW0 : wr.alloc (.cells #[.int .i64 kd, .int .i64 pl, .slice s sl sc] 38) = W0
                have hb0 : Below wr.heap.size wr W0 := by rw [← hW0]; exact (Below.refl _ _).alloc (Nat.le_refl _) _
                have hbl0 : Blk W0 wr.heap.size [.int .i64 kd, .int .i64 pl, .slice s sl sc] 38 := by rw [← hW0]; exact Blk.new wr #[.int .i64 kd, .int .i64 pl, .slice s sl sc] 38
                have hBo : Both w W0 p m g u x wr.heap.size [.int .i64 kd, .int .i64 pl, .slice s sl sc] 38 s sl ts ms h ms h :=
                  ⟨HCK.out.below hb0, HRF.out.below hb0, hbl0, (HZ.out.below (HBE.out.mono (Nat.le_refl _))).below hb0, bel_next HBE.out hb0 (Nat.le_refl _)⟩
                have hD : Dist w p m g u x wr.heap.size s sl := by
                  have e0 := HBE.out.size
                  have e1 := HCK.out.2.2.2.2.1.lt
                  have e2 := HCK.out.2.2.2.2.2.lt
                  have e3 := HRF.out.2.2.2.2.2.1.lt
                  have e4 := HRF.out.2.2.2.2.2.2.1.lt
                  have e5 := HRF.out.2.2.2.2.2.2.2.lt
                  have e6 := HDis.out
                  have e7 := HWp.out
                  refine ⟨by omega, by omega, fun b o e hp => ?_⟩
                  rcases HZ.out.2.2 with h0 | ⟨b', o', ha', hb', _⟩
                  · omega
                  · rw [ha'] at e; cases e; exact hb'
                have HD := Lib.hid hD
                have HMs := Lib.hid HCK.out.2.2.2.1
                have HHh := Lib.hid HCK.out.2.2.1
                clear hW0 hb0 hbl0 hD d0 d1 d2 HCK HRF HBE HZ
                generalize wr.heap.size = A at *
                have q0 := hBo.2.2.1.cell 0
                have q1 := hBo.2.2.1.cell 1
                have q2 := hBo.2.2.1.cell 2
                simp only [List.getElem?_cons_zero, List.getElem?_cons_succ] at q0 q1 q2
                by_cases k0 : kd = 0
                · subst k0
                  go_wp2_with fail
                  refine (add_both HD.out hBo pl).mono ?_
                  rintro e w4 ⟨rfl, hB2⟩
                  have q3 := hB2.cell1
                  go_wp2_with fail
                  refine (refset_both HD.out hB2 pl 1 true false rfl rfl).mono ?_
                  rintro e w5 ⟨rfl, hB3⟩
                  go_wp2
                  go_meet
                  case rel => exact ⟨rfl, _, _, by rw [setL_length]; exact HML.out, hB3.1, hB3.2.1, hB3.2.2.2.2⟩
                · have k0' : (kd == 0) = false := by simpa using k0
                  clear k0
                  by_cases k1 : kd = 1
                  · subst k1
                    go_wp2_with fail
                    refine (touch_both HD.out hBo pl).mono ?_
                    rintro e w4 ⟨rfl, hB2⟩
                    have q3 := hB2.cell1
                    go_wp2_with fail
                    refine (reftouch_both HD.out hB2 pl).mono ?_
                    rintro e w5 ⟨rfl, hB3⟩
                    go_wp2
                    go_meet
                    case rel => exact ⟨rfl, _, _, by rw [touchL_length]; exact HML.out, hB3.1, hB3.2.1, hB3.2.2.2.2⟩
                  · have k1' : (kd == 1) = false := by simpa using k1
                    clear k1
                    by_cases k2 : kd = 2
                    · subst k2
                      go_wp2_with fail
                      refine (remove_both HD.out hBo pl).mono ?_
                      rintro e w4 ⟨rfl, hB2⟩
                      have q3 := hB2.cell1
                      go_wp2_with fail
                      refine (refset_both HD.out hB2 pl 0 false false rfl rfl).mono ?_
                      rintro e w5 ⟨rfl, hB3⟩
                      go_wp2
                      go_meet
                      case rel => exact ⟨rfl, _, _, by rw [setL_length]; exact HML.out, hB3.1, hB3.2.1, hB3.2.2.2.2⟩
                    · have k2' : (kd == 2) = false := by simpa using k2
                      clear k2
                      replace hBo := hBo.drew
                      go_wp2_with fail
                      go_region_with (first | (go_at_call 11; refine (victim_both HD.out hBo hsl' sc).mono ?_; rintro e w5 ⟨ms1, h1, v1, rfl, hv1, hBo⟩; have q2 := hBo.cell2) | (go_at_call 17; refine (refvictim_both HD.out hBo hsl' HMs.out sc).mono ?_; rintro e w6 ⟨ms2, h2, v2, rfl, hv2, hBo⟩; have q2 := hBo.cell2))
                      all_goals
                        obtain ⟨rfl, rfl, rfl⟩ := hv1.out.one hv2.out
                        have hml1 := Lib.hid ((vicR_length hv1.out HHh.out HMs.out).trans HML.out)
                        go_wp2_with fail
                        refine (remove_both HD.out hBo _).mono ?_
                        rintro e w7 ⟨rfl, hB2⟩
                        go_wp2_with fail
                        refine (refset_both HD.out hB2 _ 0 false false rfl rfl).mono ?_
                        rintro e w8 ⟨rfl, hB3⟩
                        go_wp2
                        go_meet
                        case rel => exact ⟨rfl, _, _, by rw [setL_length]; exact hml1.out, hB3.1, hB3.2.1, hB3.2.2.2.2⟩
              case rest =>
                obtain ⟨rfl, ms', h', hml', hP⟩ := hcut
                have HM2 := Lib.hid hml'
                clear hml' HCK HRF HBE HZ d0 d1 d2 HML
                have q2 := hP.2.1.2.2.2.2.2.1.cell 2
                simp only [List.getElem?_cons_zero, List.getElem?_cons_succ] at q2
                replace hP := hP.drew
                go_wp2_with fail
                go_region_with (first | (go_at_call 12; refine (hand_pair hP).mono ?_; rintro e w' ⟨rfl, rfl⟩) | (go_at_call 19; refine (places_pair hP).mono ?_; rintro e w5 ⟨a5, n5, c5, rfl, hn5, hi5, hb5, hP⟩) | (go_at_call 20; refine (refplaces_pair hP).mono ?_; rintro e w6 ⟨a6, n6, c6, rfl, hn6, hi6, hb6, hP⟩) | (go_at_call 18; refine (ints_pair hP (first_of hi5 hb6) hi6 hn5 hn6).mono ?_; rintro e w7 ⟨rfl, hP⟩) | (go_at_call 18; refine (ints_pair hP hi5 (first_of hi6 hb5) hn5 hn6).mono ?_; rintro e w7 ⟨rfl, hP⟩))
                all_goals
                  go_wp2
                  go_roundg (gk - 1)
                  case measure => omega
                  case rel => exact ⟨j + 1, ms', h', by omega, by go_num, HM2.out, hP.1, hP.2.1, hP.2.2⟩
          · obtain rfl : j = len := by omega
            go_wp2
            go_ret
            exact ⟨rfl, HBE.out⟩
end Go.Proofs.Ytooooidnchgkaaa
