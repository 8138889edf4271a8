/- The walk of NamesTurns. -/
import Derived.Test.YtanfjiccilibcaaNmOpen
namespace Go.Proofs.Ytanfjiccilibcaa
open Go.RowKit
set_option linter.unusedVariables false

theorem own_lit (w : World) (base : Nat) (hb : base ≤ w.heap.size) : (w.alloc (.cells #[] 47)).ownsRow base 47 2 (.slice (some ⟨w.heap.size, 0, none⟩) 0 0) 0 [] :=
  World.ownsRow_made w #[] 0 hb (by simp) (by simp)
set_option maxRecDepth 8000 in
set_option maxHeartbeats 16000000 in
theorem turns_walk (v : Value) (q : Option Addr × Nat × Nat) (s : ByteArray) (hp : Int) (w : World) (hS : StrsAt w v q) (hsz : s.size ≤ maxLen) (wf : (Lit.int .i64 hp).wf = true) :
    Calls Try.prog 4 #[v, .string s, .int .i64 hp] w fun e w' => e = .returned (.bool true) ∧ Below w.heap.size w w' := by
  obtain ⟨i0, hi, hz0, hz1, hz2⟩ := info_parts Try.info_Named
  obtain ⟨a, len, cap⟩ := q
  obtain ⟨rfl, hlen, hs⟩ := hS
  have hlen : len ≤ 9223372036854775807 := hlen
  have HSt := Lib.hid hs
  obtain ⟨z, hz⟩ : ∃ z, s.size = z := ⟨_, rfl⟩
  clear hs wf hsz
  by_cases hz200 : 200 < z
  · go_enter Try.func4, Try.ntmps4
    go_wp2_with fail
    refine (awake_calls13 _).mono ?_
    rintro e w1 ⟨rfl, hb1⟩
    have HB1 := Lib.hid hb1
    clear hb1
    go_wp2_with fail
    refine (awake_calls13 _).mono ?_
    rintro e w2 ⟨rfl, hb2⟩
    have HB2 := Lib.hid (bel_next HB1.out hb2 (Nat.le_refl _))
    clear hb2
    go_wp2
    go_ret
    exact ⟨rfl, HB2.out⟩
  go_enter Try.func4, Try.ntmps4
  go_wp2_with fail
  refine (awake_calls13 _).mono ?_
  rintro e w1 ⟨rfl, hb1⟩
  have HB1 := Lib.hid hb1
  have hS1 : StrsAt w1 (.slice a len cap) (a, len, cap) := ⟨rfl, hlen, HSt.out.imp id (fun ⟨b, o, h1, h2, h3⟩ => ⟨b, o, h1, by have := hb1.size; omega, fun i hi => by obtain ⟨s, hs⟩ := h3 i hi; exact ⟨s, (hb1.cell (p := ⟨b, o + i, none⟩) h2).trans hs⟩⟩)⟩
  have HS1 := Lib.hid hS1
  clear hb1 hS1
  go_wp2_with fail
  refine (made_calls _ a len cap HS1.out).mono ?_
  rintro e w2 ⟨v, l, rfl, hd, hl, hown, hb2⟩
  have HD := Lib.hid hd
  have HB2 := Lib.hid (bel_next HB1.out hb2 (Nat.le_refl _))
  have HOl := Lib.hid (ownsRow_base (base' := 0) hown (Nat.zero_le _))
  obtain ⟨A1, c1, rfl, hr⟩ := own_read hown
  have HR := Lib.hid (hr.alloc (.cells #[] 47))
  have HOw := Lib.hid (own_lit w2 w2.heap.size (Nat.le_refl _))
  have HB2' := Lib.hid (HB2.out.alloc (by exact HB2.out.size) (.cells #[] 47))
  have HBs := Lib.hid HB2.out.size
  obtain ⟨m, h, c, hF⟩ := addF_ex HD.out s
  obtain ⟨d, cd, hG⟩ := dropF_ex HD.out s
  have HF := Lib.hid hF
  have HG := Lib.hid hG
  have hml := hF.len
  have hdl := hG.len HD.out.1
  have HDm := Lib.hid (hF.dir HD.out)
  have HDd := Lib.hid (hG.dir HD.out)
  clear hd hb2 hown hr HB1 HS1 HB2 hF hG
  go_wp2_with (at_builtin; refine wpList_append_rd rfl (.tmp 33) (.tmp 34) 23 rfl w2.heap.size 47 i0 _ 2 24 Try.underlying23 hi hz0 hz1 hz2 rfl (by decide) (.slice (some ⟨w2.heap.size, 0, none⟩) 0 0) 0 [] rfl HOw.out A1 l.length c1 rfl (namesV l) (namesV_length l) HR.out (namesV_one l) (by omega) (by unfold maxLen; omega) (by simp) ?_; intro vi w3 hown3 hgr3 hnew3 hnil3)
  have hgrb : Below w.heap.size w w3 := HB2'.out.grown hgr3 HB2'.out.size (fun k hk => by
    simp [Value.ownBlock] at hk; subst hk; have := HB2'.out.size; have := HOw.out; exact (by
      have h9 := HBs.out
      omega))
  have hw23 : Below w2.heap.size w2 w3 := ((Below.refl _ _).alloc (Nat.le_refl _) (.cells #[] 47)).grown hgr3 (by simp) (fun k hk => by simp [Value.ownBlock] at hk; omega)
  have hownI : w3.ownsRow w2.heap.size 47 2 vi l.length (namesV l) := by simpa using hown3
  obtain ⟨A3, c3, rfl, hr3⟩ := own_read hownI
  have HI3 := Lib.hid hr3
  have HO3 := Lib.hid (ownsRow_below HOl.out hw23)
  have HB3 := Lib.hid hgrb
  clear hown3 hgr3 hnew3 hnil3 hgrb hw23 hownI hr3 HOw HB2' HOl
  go_wp2_with fail
  refine (add_calls _ A3 c3 l m s h c HI3.out HD.out (by omega) HF.out).mono ?_
  rintro e w4 ⟨v4, rfl, hown, hb⟩
  obtain ⟨A4, c4, rfl, hr⟩ := own_read hown
  have HP4 := Lib.hid hr
  have HI4 := Lib.hid (HI3.out.below hb)
  have HO4 := Lib.hid (ownsRow_below HO3.out hb)
  have HB4 := Lib.hid (bel_next HB3.out hb (Nat.le_refl _))
  clear hown hr hb
  go_wp2_with fail
  refine (radd_calls _ 0 _ l m s h c HO4.out HD.out (by omega) HF.out).mono ?_
  rintro e w5 ⟨v5, rfl, hown, hb⟩
  obtain ⟨A5, c5, rfl, hr⟩ := own_read hown
  have HQ5 := Lib.hid hr
  have HP5 := Lib.hid (HP4.out.below hb)
  have HI5 := Lib.hid (HI4.out.below hb)
  have HO5 := Lib.hid (ownsRow_below HO4.out hb)
  have HB5 := Lib.hid (bel_next HB4.out hb (Nat.le_refl _))
  clear hown hr hb
  go_wp2_with fail
  refine (drop_calls _ A3 c3 l d s cd HI5.out HD.out (by omega) HG.out).mono ?_
  rintro e w6 ⟨v6, rfl, hown, hb⟩
  obtain ⟨A6, c6, rfl, hr⟩ := own_read hown
  have HS6 := Lib.hid hr
  have HP6 := Lib.hid (HP5.out.below hb)
  have HQ6 := Lib.hid (HQ5.out.below hb)
  have HI6 := Lib.hid (HI5.out.below hb)
  have HO6 := Lib.hid (ownsRow_below HO5.out hb)
  have HB6 := Lib.hid (bel_next HB5.out hb (Nat.le_refl _))
  clear hown hr hb
  go_wp2_with fail
  refine (rdrop_calls _ A1 c1 l d s cd (RdAt.of_own HO6.out) HD.out (by omega) HG.out).mono ?_
  rintro e w7 ⟨v7, rfl, hown, hb⟩
  obtain ⟨A7, c7, rfl, hr⟩ := own_read hown
  have HT7 := Lib.hid hr
  have HP7 := Lib.hid (HP6.out.below hb)
  have HQ7 := Lib.hid (HQ6.out.below hb)
  have HS7 := Lib.hid (HS6.out.below hb)
  have HI7 := Lib.hid (HI6.out.below hb)
  have HO7 := Lib.hid (ownsRow_below HO6.out hb)
  have HB7 := Lib.hid (bel_next HB6.out hb (Nat.le_refl _))
  clear hown hr hb
  go_wp2_with fail
  refine (find_calls _ A3 c3 l s HI7.out HD.out.1 (by omega)).mono ?_
  rintro e w8 ⟨hfd, hb⟩
  obtain ⟨x, bx, rfl, hrf, hbx⟩ := find_flat HD.out hfd
  have HRf := Lib.hid hrf
  have HBx := Lib.hid hbx
  have HT8 := Lib.hid (HT7.out.below hb)
  have HP8 := Lib.hid (HP7.out.below hb)
  have HQ8 := Lib.hid (HQ7.out.below hb)
  have HS8 := Lib.hid (HS7.out.below hb)
  have HI8 := Lib.hid (HI7.out.below hb)
  have HO8 := Lib.hid (ownsRow_below HO7.out hb)
  have HB8 := Lib.hid (bel_next HB7.out hb (Nat.le_refl _))
  clear hfd hrf hbx hb
  go_wp2_with fail
  refine (name_calls _ A3 c3 l hp HI8.out (by omega)).mono ?_
  rintro e w9 ⟨ns, bn, rfl, hnm, hb⟩
  have HNm := Lib.hid hnm
  have HBn := Lib.hid (name_flat HD.out hnm)
  have HT9 := Lib.hid (HT8.out.below hb)
  have HP9 := Lib.hid (HP8.out.below hb)
  have HQ9 := Lib.hid (HQ8.out.below hb)
  have HS9 := Lib.hid (HS8.out.below hb)
  have HI9 := Lib.hid (HI8.out.below hb)
  have HO9 := Lib.hid (ownsRow_below HO8.out hb)
  have HB9 := Lib.hid (bel_next HB8.out hb (Nat.le_refl _))
  clear hnm hb
  go_wp2_with fail
  refine (same13_calls _ A4 A5 c4 c5 m HP9.out HQ9.out (by omega)).mono ?_
  rintro e w10 ⟨rfl, hb⟩
  have HT10 := Lib.hid (HT9.out.below hb)
  have HS10 := Lib.hid (HS9.out.below hb)
  have HI10 := Lib.hid (HI9.out.below hb)
  have HO10 := Lib.hid (ownsRow_below HO9.out hb)
  have HB10 := Lib.hid (bel_next HB9.out hb (Nat.le_refl _))
  clear hb
  go_wp2_with fail
  refine (same13_calls _ A6 A7 c6 c7 d HS10.out HT10.out (by omega)).mono ?_
  rintro e w11 ⟨rfl, hb⟩
  have HI11 := Lib.hid (HI10.out.below hb)
  have HO11 := Lib.hid (ownsRow_below HO10.out hb)
  have HB11 := Lib.hid (bel_next HB10.out hb (Nat.le_refl _))
  clear hb
  go_wp2_with fail
  refine (rfind_calls _ A1 c1 l s (RdAt.of_own HO11.out) (by omega)).mono ?_
  rintro e w12 ⟨x2, rfl, hrf, rfl⟩
  obtain rfl : x = x2 := HRf.out.one HD.out.1 hrf
  clear hrf
  have hbx : ((bx : Bool) == decide (0 < x)) = true := by
    have := HBx.out
    cases bx
    · rw [decide_eq_false (fun h => absurd (this.2 h) (by decide))]; rfl
    · rw [decide_eq_true (this.1 rfl)]; rfl
  go_wp2_with fail
  refine (rname_calls _ A1 c1 l hp (RdAt.of_own HO11.out) (by omega)).mono ?_
  rintro e w12 ⟨ns2, b2, rfl, hnm, rfl⟩
  obtain ⟨rfl, rfl⟩ := HNm.out.one hnm
  clear hnm
  have hbn : bn = !ns.toList.isEmpty := by
    have := HBn.out
    by_cases he : ns.toList = []
    · have hf : bn = false := by
        cases bn
        · rfl
        · exact absurd he (this.1 rfl)
      rw [hf, he]; rfl
    · have hf : bn = true := this.2 he
      have h2 : ns.toList.isEmpty = false := by
        cases h3 : ns.toList
        · exact absurd h3 he
        · rfl
      rw [hf, h2]; rfl
  go_wp2_with fail
  refine (same13_calls _ A3 A1 c3 c1 l HI11.out (RdAt.of_own HO11.out) (by omega)).mono ?_
  rintro e w12 ⟨rfl, hb⟩
  have HB12 := Lib.hid (bel_next HB11.out hb (Nat.le_refl _))
  clear hb
  go_wp2
  go_ret
  exact ⟨rfl, HB12.out⟩
end Go.Proofs.Ytanfjiccilibcaa
