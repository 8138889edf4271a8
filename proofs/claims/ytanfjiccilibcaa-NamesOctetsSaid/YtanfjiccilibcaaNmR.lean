/- The walks through package names: Drop, Right. -/
import Derived.Test.YtanfjiccilibcaaNmA
namespace Go.Proofs.Ytanfjiccilibcaa
open Go.RowKit
set_option linter.unusedVariables false

set_option maxHeartbeats 4000000 in
theorem drop_calls (w : World) (A : Option Addr) (cap : Nat) (l m : List Ent) (s : ByteArray) (c : Int) (hL : RdAt w A l.length (namesV l)) (hd : Dir l) (hl : l.length ≤ 90000) (hF : DropF l s m c) :
    Calls Try.prog 9 #[.slice A l.length cap, .string s] w fun e w' => ∃ v, e = .returned (.tuple #[v, .int .i64 c]) ∧ w'.ownsRow w.heap.size 47 2 v m.length (namesV m) ∧ Below w.heap.size w w' := by
  have HL := Lib.hid hL
  have HD := Lib.hid hd
  clear hL hd
  rcases hF with ⟨hh, rfl, rfl⟩ | ⟨hh, rfl, i, hp, rfl⟩
  · go_enter Try.func9, Try.ntmps9
    go_wp2_with fail
    refine (at_calls _ A cap l s HL.out HD.out.1 (by omega)).mono ?_
    rintro e w' ⟨i, b, rfl, hr, hb⟩
    obtain rfl : b = false := by
      cases b
      · rfl
      · exact absurd ((has_at HD.out.1 hr.1).2 (hr.2.1 rfl)) hh
    have HB := Lib.hid hb
    clear hr hb hh
    go_wp2
    go_ret2
    exact ⟨_, rfl, World.ownsRow_nil _ _ _ _, HB.out⟩
  · obtain ⟨x, hx, _⟩ := (has_at HD.out.1 hp).1 hh
    have hil := (List.getElem?_eq_some_iff.1 hx).1
    have HP := Lib.hid hp
    clear hx hp
    go_enter Try.func9, Try.ntmps9
    go_wp2_with fail
    refine (at_calls _ A cap l s HL.out HD.out.1 (by omega)).mono ?_
    rintro e w' ⟨i', b, rfl, hr, hb⟩
    obtain rfl : b = true := hr.2.2 ((has_at HD.out.1 hr.1).1 hh)
    obtain rfl : i' = i := hr.1.one HP.out
    have HB := Lib.hid hb
    clear hr hb hh
    go_wp2_with fail
    refine (clone_Named _ A l.length cap (namesV l) (namesV_length l) (HL.out.below (HB.out.mono (Nat.le_refl _))) (namesV_one l) (by omega)).mono ?_
    rintro e w4 ⟨v, rfl, hown, _, hbc⟩
    have HB4 := Lib.hid (bel_next HB.out hbc (Nat.le_refl _))
    obtain ⟨g, cp, cur, rfl, hBg, hS, ht⟩ := (own_slc (ownsRow_base hown HB.out.size)).resolve_left (by omega)
    have HS := Lib.hid hS
    have HT := Lib.hid ht
    clear hown hbc hS ht
    go_wp2_with fail
    refine (delete_own _ w.heap.size g cp i' l cur HS.out HT.out hil hBg HB4.out.size (by omega)).mono ?_
    rintro e w5 ⟨v', rfl, hown, hb5⟩
    have HO5 := Lib.hid hown
    have HB5 := Lib.hid (HB4.out.trans hb5)
    clear hown hb5
    go_wp2
    go_ret2
    refine ⟨_, rfl, ?_, HB5.out⟩
    rw [show (delL l i').length = l.length - 1 by have := delL_length hil; omega]
    exact HO5.out

def OkAt (l : List Ent) (i : Nat) (a : Ent) : Prop := goodB a.1 = true ∧ bitN a.2 ≠ 0 ∧ setN (l.take i) &&& bitN a.2 = 0 ∧ ∀ b, 0 < i → l[i - 1]? = some b → lt b.1 a.1 = true
def RightP (l : List Ent) : Prop := ∀ i a, l[i]? = some a → OkAt l i a
theorem Dir.right {l : List Ent} (h : Dir l) : RightP l := by
  intro i a ha
  have h2 := h.2.1 a (List.mem_of_getElem? ha)
  refine ⟨decide_eq_true ⟨h2.1, h2.2.1⟩, fun e => (bitN_zero a.2).1 e h2.2.2, Classical.byContradiction fun hn => ?_, fun b hi hb => h.1.lt_at hb ha (by omega)⟩
  obtain ⟨x, hx, he⟩ := (setN_and _ _ h2.2.2.1 h2.2.2.2).1 hn
  obtain ⟨k, hk⟩ := List.mem_iff_getElem?.1 hx
  rw [List.getElem?_take] at hk
  split at hk
  · obtain ⟨q1, e1⟩ := List.getElem?_eq_some_iff.1 hk
    obtain ⟨q2, e2⟩ := List.getElem?_eq_some_iff.1 ha
    have := List.pairwise_iff_getElem.1 h.2.2 k i q1 q2 ‹_›
    rw [e1, e2] at this
    exact this he
  · cases hk
theorem RightP.dir {l : List Ent} (h : RightP l) : Dir l := by
  have hasc : ∀ d i a b, l[i]? = some a → l[i + d + 1]? = some b → lt a.1 b.1 = true := by
    intro d
    induction d with
    | zero => exact fun i a b ha hb => (h (i + 1) b hb).2.2.2 a (by omega) ha
    | succ d ih =>
      intro i a b ha hb
      obtain ⟨c, hc⟩ : ∃ c, l[i + d + 1]? = some c := ⟨_, List.getElem?_eq_getElem (by have := (List.getElem?_eq_some_iff.1 hb).1; omega)⟩
      exact lt_trans (ih i a c ha hc) ((h (i + (d + 1) + 1) b hb).2.2.2 c (by omega) hc)
  refine ⟨List.pairwise_iff_getElem.2 fun i j hi hj hij => ?_, fun a ha => ?_, List.pairwise_iff_getElem.2 fun i j hi hj hij => ?_⟩
  · obtain ⟨d, rfl⟩ : ∃ d, j = i + d + 1 := ⟨j - i - 1, by omega⟩
    exact hasc d i _ _ (List.getElem?_eq_getElem hi) (List.getElem?_eq_getElem hj)
  · obtain ⟨i, hi⟩ := List.mem_iff_getElem?.1 ha
    have h1 := h i a hi
    have h2 := good_sz h1.1
    have h3 := Classical.byContradiction fun hn => h1.2.1 ((bitN_zero a.2).2 hn)
    exact ⟨h2.1, h2.2, h3⟩
  · intro e
    have h1 := h j _ (List.getElem?_eq_getElem hj)
    have h3 := Classical.byContradiction fun hn => h1.2.1 ((bitN_zero l[j].2).2 hn)
    refine absurd h1.2.2.1 ((setN_and _ _ h3.1 h3.2).2 ⟨l[i], ?_, e⟩)
    exact List.mem_of_getElem? (show (l.take j)[i]? = some l[i] by rw [List.getElem?_take_of_lt hij]; exact List.getElem?_eq_getElem hi)
theorem below_drewN13 {B : Nat} {a w : World} (h : Below B a w) (n : Nat) : Below B a (w.drewN n) := ⟨h.os, h.tape, h.output, h.size, h.block⟩
theorem good_quiet (s : ByteArray) (b : Bool) (h : goodB s = b) (w : World) (q : Nat) : Calls Try.prog 25 #[.string s] (w.drewN q) fun e w' => e = .returned (.bool b) ∧ ∃ m, w' = w.drewN m := by
  subst h
  exact (good_calls s _).mono fun e w' ⟨he, hw⟩ => ⟨he, q, hw.symm⟩
theorem geq_str (t : TypeId) (x y : ByteArray) : binOp .geq t (.string x) (.string y) = pure (Value.bool (!(lt x y))) := by simp [binOp, Op.stringOp, lt]
def HeapsIn (l : List Ent) : Prop := ∀ a ∈ l, -9223372036854775808 ≤ a.2 ∧ a.2 ≤ 9223372036854775807
theorem Dir.heaps {l : List Ent} (h : Dir l) : HeapsIn l := fun a ha => by have := h.2.1 a ha; omega
set_option maxHeartbeats 8000000 in
theorem right_calls (w : World) (A : Option Addr) (cap : Nat) (l : List Ent) (hL : RdAt w A l.length (namesV l)) (hH : HeapsIn l) (hl : l.length ≤ 90000) :
    Calls Try.prog 10 #[.slice A l.length cap] w fun e w' => ∃ b, e = .returned (.bool b) ∧ (b = true ↔ RightP l) ∧ Below w.heap.size w w' := by
  have HL := Lib.hid hL
  have HH := Lib.hid hH
  clear hL hH
  go_enter Try.func10, Try.ntmps10
  go_wp2_with fail
  go_loopg [3, 4, 5, 6, 9] l.length (fun q s3 s4 s5 s6 s9 wr => ∃ j : Nat, q + j = l.length ∧ s3 = .int .u64 (setN (l.take j) : Nat) ∧ s9 = .int .i64 j ∧ Hid (∀ i a, i < j → l[i]? = some a → OkAt l i a) ∧ Hid (Below w.heap.size w wr))
  case atStart => exact ⟨0, by omega, rfl, rfl, Lib.hid (fun i a hi => by omega), Lib.hid (Below.refl _ _)⟩
  case round =>
    obtain ⟨j, hq, rfl, rfl, hok, hb⟩ := hrel
    by_cases hlt : j < l.length
    · obtain ⟨a, ha⟩ : ∃ a, l[j]? = some a := ⟨_, List.getElem?_eq_getElem hlt⟩
      obtain ⟨bb, o, rfl, hbb, r1, r2⟩ := (HL.out.below hb.out).ent ha
      have hran := HH.out a (List.mem_of_getElem? ha)
      have HS := Lib.hid (setN_take ha)
      have HA := Lib.hid ha
      have hb1 : Below wr.heap.size wr (wr.alloc (.cells #[.string a.1, .int .i64 a.2] 47)) := (Below.refl _ _).alloc (Nat.le_refl _) _
      have hk := Blk.new wr #[.string a.1, .int .i64 a.2] 47
      have hprev : ∀ p, 0 < j → l[j - 1]? = some p → (wr.alloc (.cells #[.string a.1, .int .i64 a.2] 47)).cell? ⟨bb, o + (j - 1) * 2, none⟩ = some (.string p.1) := fun p hj hp => by
        obtain ⟨b', o', he, hb', c1, _⟩ := (HL.out.below hb.out).ent hp
        cases he
        exact (hb1.cell (p := ⟨bb, o + (j - 1) * 2, none⟩) hb').trans c1
      have HPv := Lib.hid hprev
      have HB1 := Lib.hid (bel_next hb.out hb1 (Nat.le_refl _))
      have k0 := hk.cell 0
      have k1 := hk.cell 1
      simp only [List.getElem?_cons_zero, List.getElem?_cons_succ] at k0 k1
      clear ha hb1 hk hprev
      go_wp2_with fail
      refine (bit_calls a.2 _ hran).mono ?_
      rintro e w3 ⟨rfl, rfl⟩
      have hand : bits .and .u64 ((setN (l.take j) : Nat) : Int) ((bitN a.2 : Nat) : Int) = ((setN (l.take j) &&& bitN a.2 : Nat) : Int) := u64_and_nat _ _ (setN_lt _) (bitN_lt _)
      have hor : bits .or .u64 ((setN (l.take j) : Nat) : Int) ((bitN a.2 : Nat) : Int) = ((setN (l.take (j + 1)) : Nat) : Int) := by rw [HS.out]; exact u64_or_nat _ _ (setN_lt _) (bitN_lt _)
      have HOr := Lib.hid hor
      clear hor
      generalize wr.alloc (.cells #[.string a.1, .int .i64 a.2] 47) = W1 at *
      generalize wr.heap.size = X at *
      obtain ⟨y, hy⟩ : ∃ y, setN (l.take j) &&& bitN a.2 = y := ⟨_, rfl⟩
      have hnot : ∀ (h : ¬ OkAt l j a), ¬ RightP l := fun h hR => h (hR j a HA.out)
      rw [hy] at hand
      cases hg : goodB a.1
      · have HN := Lib.hid (hnot (fun h => absurd (hg.symm.trans h.1) (by decide)))
        clear hnot hy
        go_wp2_with fail
        go_quiet (exact good_quiet a.1 _ hg _ _)
        go_wp2
        go_ret
        exact ⟨_, rfl, ⟨(fun h => by cases h), fun h => absurd h HN.out⟩, below_drewN13 HB1.out _⟩
      by_cases hb0 : bitN a.2 = 0
      · have HN := Lib.hid (hnot (fun h => h.2.1 hb0))
        have hz1 : (((bitN a.2 : Nat) : Int) == 0) = true := by rw [hb0]; rfl
        clear hnot hy hb0
        go_wp2_with fail
        go_quiet (exact good_quiet a.1 _ hg _ _)
        go_wp2
        go_ret
        exact ⟨_, rfl, ⟨(fun h => by cases h), fun h => absurd h HN.out⟩, below_drewN13 HB1.out _⟩
      have hz1 : (((bitN a.2 : Nat) : Int) == 0) = false := by rw [beq_eq_false_iff_ne]; omega
      by_cases hy0 : y = 0
      · subst hy0
        by_cases hj0 : j = 0
        · have HOK := Lib.hid (show OkAt l j a from ⟨hg, hb0, hy, fun b h => by omega⟩)
          have hj1 : ¬ 0 < j := by omega
          have hj2 : ¬ (0 : Int) < (j : Int) := by omega
          have HJ0 := Lib.hid hj0
          clear hnot hy hb0 hj0
          go_wp2_with fail
          go_quiet (exact good_quiet a.1 _ hg _ _)
          go_wp2
          go_roundg (l.length - (j + 1))
          case measure => omega
          case rel => exact ⟨j + 1, by omega, by rw [HOr.out], by go_num, Lib.hid (fun i x hi hx => by
            obtain rfl : i = j := by have := HJ0.out; omega
            cases HA.out.symm.trans hx
            exact HOK.out), Lib.hid (below_drewN13 HB1.out _)⟩
        · obtain ⟨p, hp⟩ : ∃ p, l[j - 1]? = some p := ⟨_, List.getElem?_eq_getElem (by omega)⟩
          have kp := HPv.out p (by omega) hp
          have hge := fun t => geq_str t p.1 a.1
          have hj1 : 0 < j := by omega
          cases hlt2 : lt p.1 a.1
          · have HN := Lib.hid (hnot (fun h => by have := h.2.2.2 p hj1 hp; rw [hlt2] at this; cases this))
            rw [hlt2] at hge
            clear hnot hy hb0 hp
            go_wp2_with fail
            go_quiet (exact good_quiet a.1 _ hg _ _)
            go_wp2
            go_ret
            exact ⟨_, rfl, ⟨(fun h => by cases h), fun h => absurd h HN.out⟩, below_drewN13 HB1.out _⟩
          · have HOK := Lib.hid (show OkAt l j a from ⟨hg, hb0, hy, fun b h hb => by cases hp.symm.trans hb; exact hlt2⟩)
            rw [hlt2] at hge
            clear hnot hy hb0 hp
            go_wp2_with fail
            go_quiet (exact good_quiet a.1 _ hg _ _)
            go_wp2
            go_roundg (l.length - (j + 1))
            case measure => omega
            case rel => exact ⟨j + 1, by omega, by rw [HOr.out], by go_num, Lib.hid (fun i x hi hx => by
              by_cases e : i = j
              · subst e; cases HA.out.symm.trans hx; exact HOK.out
              · exact hok.out i x (by omega) hx), Lib.hid (below_drewN13 HB1.out _)⟩
      · have HN := Lib.hid (hnot (fun h => hy0 (by rw [← hy]; exact h.2.2.1)))
        have hz2 : ((y : Int) == 0) = false := by rw [beq_eq_false_iff_ne]; omega
        have hz3 : ((y : Int) != 0) = true := by simp [hy0]
        clear hnot hy hb0 hy0
        go_wp2_with fail
        go_quiet (exact good_quiet a.1 _ hg _ _)
        go_wp2
        go_ret
        exact ⟨_, rfl, ⟨(fun h => by cases h), fun h => absurd h HN.out⟩, below_drewN13 HB1.out _⟩
    · obtain rfl : j = l.length := by omega
      go_wp2
      go_ret
      exact ⟨_, rfl, ⟨fun _ i a ha => hok.out i a (List.getElem?_eq_some_iff.1 ha).1 ha, fun _ => rfl⟩, hb.out⟩
end Go.Proofs.Ytanfjiccilibcaa
