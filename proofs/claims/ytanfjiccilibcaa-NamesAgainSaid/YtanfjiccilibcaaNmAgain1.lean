/- The walk of NamesAgain. -/
import Derived.Test.YtanfjiccilibcaaNmOpen
namespace Go.Proofs.Ytanfjiccilibcaa
open Go.RowKit
set_option linter.unusedVariables false

theorem del_not {l : List Ent} {s : ByteArray} {i : Nat} (hd : Asc l) (hp : PosR l s i) (hh : Has l s) : ¬ Has (delL l i) s := by
  rw [← keep_del hd hp hh]
  rintro ⟨a, ha, he⟩
  have := (List.mem_filter.1 ha).2
  simp [he] at this
theorem del_add (d : List Ent) (i : Nat) (s : ByteArray) (h : Int) (hi : i ≤ d.length) : delL (addL d i s h) i = d := by
  have hl : (d.take i).length = i := by rw [List.length_take]; omega
  unfold delL addL
  rw [List.take_left' hl, List.append_cons, List.drop_left' (by rw [List.length_append, hl]; rfl), List.take_append_drop]
theorem pos_add {d : List Ent} {i : Nat} {s : ByteArray} (h : Int) (hp : PosR d s i) : PosR (addL d i s h) s i := by
  have hl : (d.take i).length = i := by rw [List.length_take]; have := hp.1; omega
  refine ⟨by rw [addL_length hp.1]; have := hp.1; omega, fun k a ha => ?_⟩
  unfold addL at ha
  by_cases hk : k < i
  · rw [List.getElem?_append_left (by omega), List.getElem?_take_of_lt hk] at ha
    exact hp.2 k a ha
  · rw [List.getElem?_append_right (by omega), hl] at ha
    constructor
    · intro h; omega
    · intro hlt
      by_cases e : k = i
      · subst e
        rw [Nat.sub_self] at ha
        simp only [List.getElem?_cons_zero, Option.some.injEq] at ha
        subst ha
        rw [lt_irrefl] at hlt; cases hlt
      · obtain ⟨q, rfl⟩ : ∃ q, k = i + q + 1 := ⟨k - i - 1, by omega⟩
        rw [show i + q + 1 - i = q + 1 by omega, List.getElem?_cons_succ, List.getElem?_drop] at ha
        have := (hp.2 (i + q) a ha).2 hlt
        omega
theorem again_plain {l : List Ent} (hd : Dir l) (hl : l.length ≤ 30) {a : Ent} (ha : a ∈ l) : ∃ (d m : List Ent) (h : Int), DropF l a.1 d 0 ∧ AddF d a.1 m h 0 ∧ DropF m a.1 d 0 ∧ m.length = l.length ∧ (∀ x ∈ d, x.2 ≠ h) ∧ Dir d ∧ Dir m := by
  have hh : Has l a.1 := ⟨a, ha, rfl⟩
  obtain ⟨i, hi⟩ := pos_of hd.1 a.1
  obtain ⟨x, hx, _⟩ := (has_at hd.1 hi).1 hh
  have hil := (List.getElem?_eq_some_iff.1 hx).1
  have hlen := delL_length hil
  have hdd : Dir (delL l i) := hd.del
  have hno := del_not hd.1 hi hh
  obtain ⟨k, hk⟩ := least_of (show (delL l i).length < 64 by omega)
  obtain ⟨j, hj⟩ := pos_of hdd.1 a.1
  have h2 := hd.2.1 a ha
  have hg : goodB a.1 = true := decide_eq_true ⟨h2.1, h2.2.1⟩
  have hF : AddF (delL l i) a.1 (addL (delL l i) j a.1 k) k 0 := .inr (.inr (.inr ⟨hg, hno, by omega, rfl, hk, j, hj, rfl⟩))
  refine ⟨delL l i, addL (delL l i) j a.1 k, k, .inr ⟨hh, rfl, i, hi, rfl⟩, hF, .inr ⟨⟨_, (addL_mem _).2 (.inl rfl), rfl⟩, rfl, j, pos_add _ hj, (del_add _ _ _ _ hj.1).symm⟩, ?_, hk.2.2.1, hdd, hF.dir hdd⟩
  rw [addL_length hj.1]; omega
set_option maxRecDepth 8000 in
set_option maxHeartbeats 16000000 in
theorem again_walk (v : Value) (q : Option Addr × Nat × Nat) (at' : Int) (w : World) (hS : StrsAt w v q) (wf : (Lit.int .i64 at').wf = true) :
    Calls Try.prog 5 #[v, .int .i64 at'] w fun e w' => e = .returned (.bool true) ∧ Below w.heap.size w w' := by
  obtain ⟨a, len, cap⟩ := q
  obtain ⟨rfl, hlen, hs⟩ := hS
  have hlen : len ≤ 9223372036854775807 := hlen
  have HSt := Lib.hid hs
  have hat := wf_i64 wf
  clear hs wf
  by_cases hl0 : len = 0
  · have hlb : ((len : Int) == 0) = true := by rw [hl0]; rfl
    go_enter Try.func5, Try.ntmps5
    go_wp2_with fail
    refine (awake_calls13 _).mono ?_
    rintro e w1 ⟨rfl, hb1⟩
    have HB1 := Lib.hid hb1
    clear hb1
    go_wp2_with fail
    refine (awake_calls13 _).mono ?_
    rintro e w2 ⟨rfl, hb2⟩
    have HB2 := Lib.hid (bel_next HB1.out hb2 (Nat.le_refl _))
    clear hb2
    go_wp2
    go_ret
    exact ⟨rfl, HB2.out⟩
  have hlb : ((len : Int) == 0) = false := by rw [beq_eq_false_iff_ne]; omega
  go_enter Try.func5, Try.ntmps5
  go_wp2_with fail
  refine (awake_calls13 _).mono ?_
  rintro e w1 ⟨rfl, hb1⟩
  have HB1 := Lib.hid hb1
  have hS1 : StrsAt w1 (.slice a len cap) (a, len, cap) := ⟨rfl, hlen, HSt.out.imp id (fun ⟨b, o, h1, h2, h3⟩ => ⟨b, o, h1, by have := hb1.size; omega, fun i hi => by obtain ⟨s, hs⟩ := h3 i hi; exact ⟨s, (hb1.cell (p := ⟨b, o + i, none⟩) h2).trans hs⟩⟩)⟩
  have HS1 := Lib.hid hS1
  clear hb1 hS1
  go_wp2_with fail
  refine (made_calls _ a len cap HS1.out).mono ?_
  rintro e w2 ⟨v, l, rfl, hd, hl, hown, hb2⟩
  have HD := Lib.hid hd
  have HB2 := Lib.hid (bel_next HB1.out hb2 (Nat.le_refl _))
  obtain ⟨A1, c1, rfl, hr⟩ := own_read hown
  have HR := Lib.hid hr
  clear hd hb2 hown hr HB1 HS1
  by_cases hn0 : l.length = 0
  · rw [hn0]
    go_wp2
    go_ret
    exact ⟨rfl, HB2.out⟩
  have hnb : ((l.length : Int) == 0) = false := by rw [beq_eq_false_iff_ne]; omega
  obtain ⟨k, hk, hke⟩ : ∃ k : Nat, k < l.length ∧ (wrap64 (at'.tmod l.length + l.length)).tmod l.length = (k : Int) := by
    generalize l.length = n at *
    have h5 := Int.tmod_lt_of_pos at' (show (0 : Int) < n by omega)
    have h6 : -(n : Int) < at'.tmod n := by
      have := Int.tmod_lt_of_pos (-at') (show (0 : Int) < n by omega)
      rw [Int.neg_tmod] at this
      omega
    have hw64 : wrap64 (at'.tmod n + n) = at'.tmod n + n := by unfold wrap64; omega
    rw [hw64]
    refine ⟨((at'.tmod n + n).tmod n).toNat, ?_, ?_⟩
    · rw [Int.tmod_eq_emod_of_nonneg (by omega)]
      have h7 := Int.emod_lt_of_pos (at'.tmod n + n) (show (0 : Int) < n by omega)
      have h8 := Int.emod_nonneg (at'.tmod n + n) (show (n : Int) ≠ 0 by omega)
      omega
    · rw [Int.tmod_eq_emod_of_nonneg (by omega)]
      have h8 := Int.emod_nonneg (at'.tmod n + n) (show (n : Int) ≠ 0 by omega)
      omega
  obtain ⟨x, hx⟩ : ∃ x, l[k]? = some x := ⟨_, List.getElem?_eq_getElem (by omega)⟩
  obtain ⟨d, m, h, hF1, hF2, hF3, hml, hno, hdd, hdm⟩ := again_plain HD.out hl (List.mem_of_getElem? hx)
  obtain ⟨bb, o, rfl, hbb, r1, r2⟩ := HR.out.ent hx
  have HF1 := Lib.hid hF1
  have HF2 := Lib.hid hF2
  have HF3 := Lib.hid hF3
  have HDd := Lib.hid hdd
  have HDm := Lib.hid hdm
  have HNo := Lib.hid hno
  have hdl := Lib.hid (hF1.len HD.out.1)
  have HML := Lib.hid hml
  have hran := hF2.range
  clear hF1 hF2 hF3 hdd hdm hno hml hx
  go_wp2_with fail
  refine (drop_calls _ _ c1 l d x.1 0 HR.out HD.out (by omega) HF1.out).mono ?_
  rintro e w3 ⟨v3, rfl, hown, hb3⟩
  obtain ⟨A3, c3, rfl, hr3⟩ := own_read hown
  have HR3 := Lib.hid hr3
  have HB3 := Lib.hid (bel_next HB2.out hb3 (Nat.le_refl _))
  clear hown hr3 hb3 r1 r2
  go_wp2_with fail
  refine (add_calls _ A3 c3 d m x.1 h 0 HR3.out HDd.out (by have := hdl.out; omega) HF2.out).mono ?_
  rintro e w4 ⟨v4, rfl, hown, hb4⟩
  obtain ⟨A4, c4, rfl, hr4⟩ := own_read hown
  have HR4 := Lib.hid hr4
  have HR34 := Lib.hid (HR3.out.below hb4)
  have HB4 := Lib.hid (bel_next HB3.out hb4 (Nat.le_refl _))
  clear hown hr4 hb4
  have hlen4 : ((m.length : Int) != (l.length : Int)) = false := by rw [HML.out]; simp
  have hml4 : m.length ≤ 90000 := by rw [HML.out]; omega
  have hdl4 : d.length ≤ 90000 := by have := hdl.out; omega
  go_wp2_with fail
  refine (right_calls _ A4 c4 m HR4.out HDm.out.heaps hml4).mono ?_
  rintro e w5 ⟨b, rfl, hb, hb5⟩
  obtain rfl : b = true := hb.2 HDm.out.right
  have HR5 := Lib.hid (HR4.out.below hb5)
  have HR35 := Lib.hid (HR34.out.below hb5)
  have HB5 := Lib.hid (bel_next HB4.out hb5 (Nat.le_refl _))
  clear hb hb5
  go_wp2_with fail
  refine (name_calls _ A3 c3 d h HR35.out (by omega)).mono ?_
  rintro e w6 ⟨s6, b6, rfl, hnm, hb6⟩
  obtain rfl : b6 = false := by
    rcases hnm with ⟨_, _, h9⟩ | ⟨q, y, hq, hy, _⟩
    · exact h9
    · exact absurd hy (HNo.out y (List.mem_of_getElem? hq))
  have HR6 := Lib.hid (HR5.out.below hb6)
  have HR36 := Lib.hid (HR35.out.below hb6)
  have HB6 := Lib.hid (bel_next HB5.out hb6 (Nat.le_refl _))
  clear hnm hb6
  go_wp2_with fail
  refine (drop_calls _ A4 c4 m d x.1 0 HR6.out HDm.out hml4 HF3.out).mono ?_
  rintro e w7 ⟨v7, rfl, hown, hb7⟩
  obtain ⟨A7, c7, rfl, hr7⟩ := own_read hown
  have HR7 := Lib.hid hr7
  have HR37 := Lib.hid (HR36.out.below hb7)
  have HB7 := Lib.hid (bel_next HB6.out hb7 (Nat.le_refl _))
  clear hown hr7 hb7
  go_wp2_with fail
  refine (same13_calls _ A7 A3 c7 c3 d HR7.out HR37.out (by omega)).mono ?_
  rintro e w8 ⟨rfl, hb8⟩
  have HB8 := Lib.hid (bel_next HB7.out hb8 (Nat.le_refl _))
  clear hb8
  go_wp2
  go_ret
  exact ⟨rfl, HB8.out⟩
end Go.Proofs.Ytanfjiccilibcaa
