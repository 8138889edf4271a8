/- The walk of names.Get. -/
import Derived.Test.YtanfjiccilibcaaNmX
import Derived.Deep.LoopGhost
namespace Go.Proofs.Ytanfjiccilibcaa
open Go.RowKit
set_option linter.unusedVariables false

theorem tk_none (n : Nat) : tkL none n = ([], none) := rfl
theorem plS_next (st : Option (List Int)) (n : Nat) : plS st (n + 1) = ((plS st n).1 ++ [(pEnt (plS st n).2).1], (pEnt (plS st n).2).2) := rfl
theorem oct_one (st : Option (List Int)) (h : ∀ b ∈ st.getD [], 0 ≤ b ∧ b ≤ 255) : 0 ≤ oc.oct (tkL st 1).1 ∧ oc.oct (tkL st 1).1 ≤ 255 := by
  have h1 := oc.oct_bd _ (tkL_bd h 1)
  have h2 := tkL_len st 1
  have h3 : (256 : Int) ^ (tkL st 1).1.length ≤ 256 := by
    have h4 : (tkL st 1).1.length = 0 ∨ (tkL st 1).1.length = 1 := by omega
    rcases h4 with h4 | h4 <;> rw [h4] <;> decide
  omega
theorem tkL_bd2 {st : Option (List Int)} (h : ∀ b ∈ st.getD [], 0 ≤ b ∧ b ≤ 255) (n : Nat) : ∀ b ∈ (tkL st n).2.getD [], 0 ≤ b ∧ b ≤ 255 := by
  intro b hb
  unfold tkL at hb
  split at hb
  · cases hb
  · split at hb
    · exact h b (List.mem_of_mem_drop hb)
    · cases hb
theorem plS_bd {st : Option (List Int)} (h : ∀ b ∈ st.getD [], 0 ≤ b ∧ b ≤ 255) (n : Nat) : ∀ b ∈ (plS st n).2.getD [], 0 ≤ b ∧ b ≤ 255 := by
  induction n with
  | zero => exact h
  | succ n ih => exact tkL_bd2 (tkL_bd2 (tkL_bd2 ih 1) 2) _
theorem plS_heaps {st : Option (List Int)} (h : ∀ b ∈ st.getD [], 0 ≤ b ∧ b ≤ 255) (n : Nat) : HeapsIn (plS st n).1 := by
  intro a ha
  obtain ⟨i, hi⟩ := List.mem_iff_getElem?.1 ha
  have hl := (List.getElem?_eq_some_iff.1 hi).1
  rw [plS_len] at hl
  rw [plS_at st hl] at hi
  cases hi
  have := oct_one _ (plS_bd h i)
  show _ ≤ oc.oct (tkL (plS st i).2 1).1 ∧ oc.oct (tkL (plS st i).2 1).1 ≤ _
  omega
theorem st_len {st : Option (List Int)} {n : Nat} (h : (st.getD []).length ≤ n) (m : Nat) : ((tkL st m).2.getD []).length ≤ n := by
  unfold tkL
  split
  · simp
  · split
    · simp only [Option.getD_some, List.length_drop] at h ⊢; omega
    · simp
theorem plS_stlen {st : Option (List Int)} {n : Nat} (h : (st.getD []).length ≤ n) (m : Nat) : ((plS st m).2.getD []).length ≤ n := by
  induction m with
  | zero => exact h
  | succ m ih => exact st_len (st_len (st_len ih 1) 2) _
set_option maxRecDepth 8000 in
set_option maxHeartbeats 8000000 in
theorem nget_calls (w : World) (A : Option Addr) (cap : Nat) (zs : List Int) (hr : RdAt w A zs.length (octV zs)) (hz : ∀ b ∈ zs, 0 ≤ b ∧ b ≤ 255) (hl : zs.length ≤ 90000) :
    Calls Try.prog 20 #[.slice A zs.length cap] w fun e w' => ∃ v, e = .returned (.tuple #[v, .int .i64 ((getN zs).2 : Nat)]) ∧ w'.ownsRow w.heap.size 47 2 v (getN zs).1.length (namesV (getN zs).1) ∧ Below w.heap.size w w' := by
  obtain ⟨i0, hi, hz0, hz1, hz2⟩ := info_parts Try.info_Named
  have HZ := Lib.hid hz
  have HR := Lib.hid hr
  obtain ⟨n, hn⟩ : ∃ n, zs.length = n := ⟨_, rfl⟩
  clear hz hr
  have HRr := fun w' h => read_calls w' A cap zs h HZ.out (by omega)
  rw [hn] at HRr hl ⊢
  go_enter Try.func20, Try.ntmps20
  go_wp2_with fail
  refine (HRr _ (by rw [← hn]; exact HR.out)).mono ?_
  rintro e w1 ⟨R, rfl, hR, hs, hb⟩
  have HS1 := Lib.hid hs
  have HB1 := Lib.hid hb
  clear hs hb
  go_wp2_with fail
  refine (rnum_calls _ R 1 _ HS1.out (by omega)).mono ?_
  rintro e w2 ⟨rfl, hs, ho⟩
  have HS2 := Lib.hid hs
  have HB2 := Lib.hid (bel_only HB1.out ho (Nat.le_refl _) (fun k hk => by subst hk; exact hR))
  obtain ⟨st, hst⟩ : ∃ st, (tkL (some zs) 1).2 = st := ⟨_, rfl⟩
  have hstb : ∀ b ∈ st.getD [], 0 ≤ b ∧ b ≤ 255 := by rw [← hst]; exact tkL_bd2 (st := some zs) HZ.out 1
  obtain ⟨c, hc⟩ : ∃ c : Nat, oc.oct (tkL (some zs) 1).1 = (c : Int) := ⟨(oc.oct (tkL (some zs) 1).1).toNat, by have := oct_one (some zs) HZ.out; omega⟩
  have hc255 : c ≤ 255 := by have := oct_one (some zs) HZ.out; omega
  have hcw : wrap64 (oc.oct (tkL (some zs) 1).1) = (c : Int) := by rw [hc]; unfold wrap64; omega
  have HC := Lib.hid hc
  have HSt := Lib.hid hst
  have HStb := Lib.hid hstb
  rw [hcw]
  rw [hst] at HS2
  clear hs ho HS1 HB1 hcw hc hst hstb
  go_wp2_with fail
  go_loopg [13, 6, 7] c (fun q s13 s6 s7 wx => ∃ i : Nat, q + i = c ∧ s13 = .int .i64 i ∧ Hid (RSt wx R (plS st i).2) ∧ Hid (wx.ownsRow w.heap.size 47 2 s6 i (namesV (plS st i).1)) ∧ Hid (Below w.heap.size w wx))
  case atStart => exact ⟨0, by omega, rfl, HS2, Lib.hid (World.ownsRow_nil _ _ _ _), HB2⟩
  case round =>
    obtain ⟨i, hq, rfl, hs, ho, hb⟩ := hrel
    by_cases hic : i < c
    · have h1 := oct_one _ (plS_bd HStb.out i)
      have h2 : wrap64 (oc.oct (tkL (plS st i).2 1).1) = oc.oct (tkL (plS st i).2 1).1 := by unfold wrap64; omega
      clear h1
      go_wp2_with fail
      refine (rnum_calls _ R 1 _ hs.out (by omega)).mono ?_
      rintro e w3 ⟨rfl, hs3, ho3⟩
      rw [h2]
      have HS3 := Lib.hid hs3
      have HB3 := Lib.hid (bel_only hb.out ho3 (Nat.le_refl _) (fun k hk => by subst hk; exact hR))
      have HO3 := Lib.hid (own_only ho.out ho3 (fun k hk e => by
        obtain ⟨_, _, _, hblk, _⟩ := hs.out
        exact own_apart ho.out hblk (by decide) (by rw [hk, e])))
      clear hs3 ho3 hs ho hb h2
      go_wp2_with fail
      refine (rtext_calls _ R _ HS3.out).mono ?_
      rintro e w4 ⟨rfl, hs4, ho4⟩
      have HS4 := Lib.hid hs4
      have HB4 := Lib.hid (bel_only HB3.out ho4 (Nat.le_refl _) (fun k hk => by subst hk; exact hR))
      have HO4 := Lib.hid (own_only HO3.out ho4 (fun k hk e => by
        obtain ⟨_, _, _, hblk, _⟩ := HS3.out
        exact own_apart HO3.out hblk (by decide) (by rw [hk, e])))
      clear hs4 ho4 HS3 HB3 HO3
      go_wp2_with (at_builtin; refine wpList_append_new rfl (.tmp 17) (.tmp 22) 23 rfl w.heap.size 47 i0 _ 2 24 Try.underlying23 hi hz0 hz1 hz2 rfl (by decide) _ i 1 _ rfl HO4.out rfl rfl (two_one13 _ _) (by omega) (by unfold maxLen; omega) HB4.out.size ?_; intro v2 w5 hown2 hgr2 hnew2; have HO5 := Lib.hid hown2; have HB5 := Lib.hid (app_own HB4.out HO4.out hgr2); have HS5 := Lib.hid (HS4.out.grown HO4.out (by decide) (by decide) hgr2); clear hown2 hgr2 hnew2)
      go_roundg (c - (i + 1))
      case measure => omega
      case rel => exact ⟨i + 1, by omega, by go_num, HS5, Lib.hid (by
        have h := HO5.out
        rw [plS_next]
        rw [← namesV_snoc]
        exact h), HB5⟩
    · obtain rfl : i = c := by omega
      obtain ⟨A6, c6, rfl, hr6⟩ := own_read (l := (plS st i).1) (by rw [plS_len]; exact ho.out)
      by_cases hn0 : n = 0
      · subst hn0
        obtain rfl : zs = [] := List.eq_nil_of_length_eq_zero hn
        go_wp2
        go_ret2
        exact ⟨_, rfl, World.ownsRow_nil _ _ _ _, hb.out⟩
      · obtain ⟨z, r, rfl⟩ : ∃ z r, zs = z :: r := by
          cases zs with
          | nil => exact absurd (by simpa using hn.symm) hn0
          | cons z r => exact ⟨z, r, rfl⟩
        have hst : st = some r := HSt.out.symm
        have hz : (z : Int).toNat = i := by
          have h1 := HC.out
          have h2 : oc.oct (tkL (some (z :: r)) 1).1 = z := by
            show oc.oct [z] = z
            simp [oc.oct]
          omega
        subst hst
        have HR6 := Lib.hid hr6
        have HHp := Lib.hid (plS_heaps HStb.out i)
        have hll : (plS (some r) i).1.length ≤ 90000 := by rw [plS_len]; omega
        have hrc := right_calls wr A6 c6 (plS (some r) i).1 HR6.out HHp.out hll
        rw [plS_len] at hrc ⊢
        clear hr6
        go_wp2_with fail
        refine hrc.mono ?_
        rintro e w7 ⟨b, rfl, hbR, hb7⟩
        have HB7 := Lib.hid (bel_next hb.out hb7 (Nat.le_refl _))
        have HBR := Lib.hid hbR
        have HS7 := Lib.hid (hs.out.below hb7)
        have HO7 := Lib.hid (ownsRow_below ho.out hb7)
        clear hrc hbR hb7
        cases b
        · have hno : ¬ RightP (plS (some r) (z : Int).toNat).1 := by rw [hz]; exact fun h => absurd (HBR.out.2 h) (by decide)
          have hg := getN_no hno
          go_wp2
          go_ret2
          rw [hg]
          exact ⟨_, rfl, World.ownsRow_nil _ _ _ _, HB7.out⟩
        · have hye : RightP (plS (some r) (z : Int).toNat).1 := by rw [hz]; exact HBR.out.1 rfl
          have hg := getN_yes hye
          rw [hz] at hg
          have HG := Lib.hid hg
          clear hg
          have hle := plS_stlen (st := some r) (n := n) (by rw [← hn]; simp) i
          obtain ⟨k, hk⟩ : ∃ k, ((plS (some r) i).2.getD []).length = k := ⟨_, rfl⟩
          have HK := Lib.hid hk
          rw [hk] at hle
          go_wp2_with fail
          refine (left_calls _ R _ HS7.out).mono ?_
          rintro e w8 ⟨rfl, rfl⟩
          rw [HK.out]
          go_wp2
          go_ret2
          have e : ((((z :: r).length - ((plS (some r) i).2.getD []).length : Nat) : Int)) = (n : Int) - k := by rw [hn, HK.out]; omega
          rw [HG.out]
          dsimp only
          rw [e]
          exact ⟨_, rfl, by have h := HO7.out; rw [plS_len] at h; rw [plS_len]; exact h, HB7.out⟩
end Go.Proofs.Ytanfjiccilibcaa
