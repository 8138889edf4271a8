/- The walks through the document's answers for names: Add, Drop. -/
import Derived.Test.YtanfjiccilibcaaNmT
import Derived.Test.YtanfjiccilibcaaNmL
namespace Go.Proofs.Ytanfjiccilibcaa
open Go.RowKit
set_option linter.unusedVariables false

theorem ba_nil : ByteArray.empty.toList = [] := by rw [ByteArray.toList_eq]; rfl
theorem own_read2 {w : World} {base : Nat} {v : Value} {l : List Ent} (h : w.ownsRow base 47 2 v l.length (namesV l)) : ∃ A c, v = .slice A l.length c ∧ RdAt w A l.length (namesV l) ∧ c ≤ 9223372036854775807 ∧ l.length ≤ c ∧ ((A = none ∧ l.length = 0 ∧ c = 0) ∨ ∃ g, A = some ⟨g, 0, none⟩) := by
  obtain ⟨A, c, rfl⟩ := ownsRow_slice h
  refine ⟨A, c, rfl, RdAt.of_own h, ?_⟩
  rcases ownsRow_form h with ⟨h1, h2⟩ | ⟨g, cap, h1, _, _, h3, h4⟩
  · simp only [Value.slice.injEq] at h1
    obtain ⟨rfl, h5, rfl⟩ := h1
    exact ⟨by omega, by omega, .inl ⟨rfl, h2, rfl⟩⟩
  · simp only [Value.slice.injEq] at h1
    obtain ⟨rfl, h5, rfl⟩ := h1
    unfold maxLen at h4
    exact ⟨h4, h3, .inr ⟨g, rfl⟩⟩
theorem RdAt.tail {w : World} {g p : Nat} {l : List Ent} (h : RdAt w (some ⟨g, 0, none⟩) l.length (namesV l)) : RdAt w (some ⟨g, p * 2, none⟩) (l.length - p) (namesV (l.drop p)) := by
  by_cases h0 : l.length - p = 0
  · exact .inl h0
  · obtain ⟨b, o, he, hb, hc⟩ := h.resolve_left (by omega)
    cases he
    refine .inr ⟨g, p * 2, rfl, hb, fun j v hj => ?_⟩
    rw [← namesV_drop, List.getElem?_drop] at hj
    have := hc _ _ hj
    rwa [Nat.zero_add] at this
theorem two_one13 (s : ByteArray) (b : Int) : ∀ u ∈ (#[Value.string s, Value.int .i64 b]).toList, u.oneCell' = true := fun u hu => List.all_eq_true.1 (show ([Value.string s, Value.int .i64 b]).all (fun v => v.oneCell') = true from rfl) u hu
theorem namesV_snoc (l : List Ent) (a : Ent) : namesV l ++ (#[Value.string a.1, Value.int .i64 a.2]).toList = namesV (l ++ [a]) := by rw [namesV_append]; rfl
theorem app_own {w w0 w3 : World} {v : Value} {n : Nat} {xs : List Value} (hB : Below w.heap.size w w0) (hown : w0.ownsRow w.heap.size 47 2 v n xs) (hgr : w0.grownBy w3 v.ownBlock) : Below w.heap.size w w3 :=
  hB.grown hgr hB.size (fun k hk => (hown.lt k hk).1)
set_option maxHeartbeats 8000000 in
theorem radd_calls (w : World) (B : Nat) (v : Value) (l m : List Ent) (s : ByteArray) (h c : Int) (hown : w.ownsRow B 47 2 v l.length (namesV l)) (hd : Dir l) (hl : l.length ≤ 90000) (hF : AddF l s m h c) :
    Calls Try.prog 12 #[v, .string s] w fun e w' => ∃ v', e = .returned (.tuple #[v', .int .i64 h, .int .i64 c]) ∧ w'.ownsRow w.heap.size 47 2 v' m.length (namesV m) ∧ Below w.heap.size w w' := by
  obtain ⟨i0, hi, hz0, hz1, hz2⟩ := info_parts Try.info_Named
  obtain ⟨A, cap, rfl, hL, hcap, hlc, hform⟩ := own_read2 hown
  have HL := Lib.hid hL
  have HD := Lib.hid hd
  have HFm := Lib.hid hform
  obtain ⟨z, hz⟩ : ∃ z, s.size = z := ⟨_, rfl⟩
  clear hL hd hown hform
  rcases hF with ⟨hg, rfl, rfl, rfl⟩ | ⟨hg, hh, rfl, rfl, rfl⟩ | ⟨hg, hh, hn, rfl, rfl, rfl⟩ | ⟨hg, hh, hn, rfl, hle, i, hp, rfl⟩
  · have hno : ¬ (1 ≤ z ∧ z ≤ 32) := by rw [← hz]; exact of_decide_eq_false hg
    by_cases hz1 : z < 1
    · go_enter Try.func12, Try.ntmps12
      go_wp2
      go_ret3
      exact ⟨_, rfl, World.ownsRow_nil _ _ _ _, Below.refl _ _⟩
    · have hz2 : 32 < z := by omega
      go_enter Try.func12, Try.ntmps12
      go_wp2
      go_ret3
      exact ⟨_, rfl, World.ownsRow_nil _ _ _ _, Below.refl _ _⟩
  · have hzz := good_sz hg
    rw [hz] at hzz
    obtain ⟨hzz1, hzz2⟩ := hzz
    go_enter Try.func12, Try.ntmps12
    go_wp2_with fail
    refine (rfind_calls _ A cap l s HL.out (by omega)).mono ?_
    rintro e w' ⟨h, rfl, hr, rfl⟩
    have hh1 : 0 < h := by
      rcases hr with ⟨hn, _⟩ | ⟨a, ha, _, rfl⟩
      · exact absurd hh hn
      · exact (HD.out.2.1 a ha).2.2.1
    go_wp2
    go_ret3
    exact ⟨_, rfl, World.ownsRow_nil _ _ _ _, Below.refl _ _⟩
  · have hzz := good_sz hg
    rw [hz] at hzz
    obtain ⟨hzz1, hzz2⟩ := hzz
    go_enter Try.func12, Try.ntmps12
    go_wp2_with fail
    refine (rfind_calls _ A cap l s HL.out (by omega)).mono ?_
    rintro e w' ⟨h, rfl, hr, rfl⟩
    obtain rfl : h = 0 := by
      rcases hr with ⟨_, h0⟩ | ⟨a, ha, he, rfl⟩
      · exact h0
      · exact absurd ⟨a, ha, he⟩ hh
    go_wp2
    go_ret3
    exact ⟨_, rfl, World.ownsRow_nil _ _ _ _, Below.refl _ _⟩
  · obtain ⟨hm, rfl⟩ : ∃ hm : Nat, h = hm := ⟨h.toNat, by have := hle.1; omega⟩
    have HLe := Lib.hid hle
    have hm1 : 1 ≤ hm ∧ hm ≤ 64 := by have := hle.1; have := hle.2.1; omega
    have HP := Lib.hid hp
    have hil := hp.1
    have hzz := good_sz hg
    rw [hz] at hzz
    obtain ⟨hzz1, hzz2⟩ := hzz
    clear hle hp
    go_enter Try.func12, Try.ntmps12
    go_wp2_with fail
    refine (rfind_calls _ A cap l s HL.out (by omega)).mono ?_
    rintro e w' ⟨h, rfl, hr, rfl⟩
    obtain rfl : h = 0 := by
      rcases hr with ⟨_, h0⟩ | ⟨a, ha, he, rfl⟩
      · exact h0
      · exact absurd ⟨a, ha, he⟩ hh
    clear hr hh
    go_wp2_with fail
    go_loopg [7] 63 (fun q s7 wx => ∃ t : Nat, q + t = 64 ∧ 1 ≤ t ∧ t ≤ hm ∧ s7 = .int .i64 t ∧ w = wx)
    case atStart => exact ⟨1, by omega, by omega, by omega, rfl, rfl⟩
    case round =>
      obtain ⟨t, hqt, ht1, ht2, rfl, rfl⟩ := hrel
      by_cases hth : t < hm
      · go_wp2_with fail
        refine (rname_calls _ A cap l t HL.out (by omega)).mono ?_
        rintro e w3 ⟨x, b, rfl, hx, rfl⟩
        have hne : (x.toList == ([] : List UInt8)) = false := by
          rw [beq_eq_false_iff_ne]
          intro he
          obtain ⟨a, ha, hat⟩ := HLe.out.2.2.2 t (by omega) (by omega)
          rcases hx with ⟨h1, _⟩ | ⟨k, a', hk, _, _, rfl, _⟩
          · exact h1 a ha hat
          · have h2 := (HD.out.2.1 a' (List.mem_of_getElem? hk)).1
            have h3 : a'.1 = ByteArray.empty := ba_ext (he.trans ba_nil.symm)
            rw [h3] at h2
            simp at h2
        have hne2 : ¬ x.toList = [] := by rw [beq_eq_false_iff_ne] at hne; exact hne
        clear hx
        go_wp2
        go_roundg (64 - (t + 1))
        case measure => omega
        case rel => exact ⟨t + 1, by omega, by omega, by omega, by go_num, rfl⟩
      · obtain rfl : t = hm := by omega
        go_wp2_with fail
        refine (rname_calls _ A cap l t HL.out (by omega)).mono ?_
        rintro e w3 ⟨x, b, rfl, hx, rfl⟩
        obtain rfl : x = ByteArray.empty := by
          rcases hx with ⟨_, h1, _⟩ | ⟨k, a', hk, he, _⟩
          · exact h1
          · exact absurd he (HLe.out.2.2.1 a' (List.mem_of_getElem? hk))
        have hne := ba_nil
        clear hx
        go_wp2_with fail
        go_loopg [8, 9] l.length (fun q s8 s9 wx => ∃ j : Nat, q + j = l.length ∧ j ≤ i ∧ s9 = .int .i64 j ∧ Hid (wx.ownsRow w.heap.size 47 2 s8 j (namesV (l.take j))) ∧ Hid (Below w.heap.size w wx))
        case atStart => exact ⟨0, by omega, by omega, rfl, Lib.hid (World.ownsRow_nil _ _ _ _), Lib.hid (Below.refl _ _)⟩
        case round =>
          obtain ⟨j, hq, hji, rfl, ho, hb⟩ := hrel
          by_cases hlt : j < i
          · obtain ⟨a, ha⟩ : ∃ a, l[j]? = some a := ⟨_, List.getElem?_eq_getElem (by omega)⟩
            obtain ⟨bb, o, rfl, hbb, r1, r2⟩ := (HL.out.below (hb.out.mono (Nat.le_refl _))).ent ha
            have hls : lt a.1 s = true := (HP.out.2 j a ha).1 hlt
            have HT := Lib.hid (take_snoc ha)
            have hjl : j < l.length := by omega
            have hsz := (HD.out.2.1 a (List.mem_of_getElem? ha)).2.1
            clear ha
            go_wp2_with fail
            refine (less_calls a.1 s _ (by omega) (by omega)).mono ?_
            rintro e w3 ⟨rfl, hb3⟩
            rw [hls]
            have d1 := (hb3.cell (p := ⟨bb, o + j * 2, none⟩) hbb).trans r1
            have d2 := (hb3.cell (p := ⟨bb, o + j * 2 + 1, none⟩) hbb).trans r2
            have HB3 := Lib.hid (bel_next hb.out hb3 (Nat.le_refl _))
            have HO3 := Lib.hid (ownsRow_below ho.out hb3)
            clear r1 r2 hb3
            go_wp2_with (at_builtin; refine wpList_append_new rfl (.tmp 44) (.tmp 49) 23 rfl w.heap.size 47 i0 _ 2 24 Try.underlying23 hi hz0 hz1 hz2 rfl (by decide) _ j 1 _ rfl HO3.out rfl rfl (two_one13 _ _) (by omega) (by unfold maxLen; omega) HB3.out.size ?_; intro v2 w4 hown2 hgr2 hnew2; have HO2 := Lib.hid hown2; have HB4 := Lib.hid (app_own HB3.out HO3.out hgr2); clear hown2 hgr2 hnew2)
            go_roundg (l.length - (j + 1))
            case measure => omega
            case rel => exact ⟨j + 1, by omega, by omega, by go_num, Lib.hid (by rw [HT.out, ← namesV_snoc]; exact HO2.out), HB4⟩
          · obtain rfl : j = i := by omega
            by_cases hil2 : j < l.length
            · obtain ⟨a, ha⟩ : ∃ a, l[j]? = some a := ⟨_, List.getElem?_eq_getElem (by omega)⟩
              obtain ⟨bb, o, he, hbb, r1, r2⟩ := (HL.out.below (hb.out.mono (Nat.le_refl _))).ent ha
              obtain ⟨g, rfl⟩ : ∃ g, A = some ⟨g, 0, none⟩ := HFm.out.resolve_left (fun h => by have := h.2.1; omega)
              cases he
              have hls : lt a.1 s = false := by
                cases h9 : lt a.1 s
                · rfl
                · have := (HP.out.2 j a ha).2 h9; omega
              have hsz := (HD.out.2.1 a (List.mem_of_getElem? ha)).2.1
              clear ha
              simp only [Nat.zero_add] at r1 r2
              go_wp2_with fail
              refine (less_calls a.1 s _ (by omega) (by omega)).mono ?_
              rintro e w3 ⟨rfl, hb3⟩
              rw [hls]
              have HB3 := Lib.hid (bel_next hb.out hb3 (Nat.le_refl _))
              have HO3 := Lib.hid (ownsRow_below ho.out hb3)
              clear r1 r2 hb3
              have hcj : ¬ cap = j := by omega
              have htl : ∀ w', Below w.heap.size w w' → RdAt w' (some ⟨bb, j * 2, none⟩) (l.length - j) (namesV (l.drop j)) := fun w' hb => (HL.out.below (hb.mono (Nat.le_refl _))).tail
              have hic : j ≤ cap := by omega
              go_wp2_with (first | (at_builtin; refine wpList_append_new rfl (.tmp 53) (.tmp 57) 23 rfl w.heap.size 47 i0 _ 2 24 Try.underlying23 hi hz0 hz1 hz2 rfl (by decide) _ j 1 _ rfl HO3.out rfl rfl (two_one13 _ _) (by omega) (by unfold maxLen; omega) HB3.out.size ?_; intro v2 w4 hown2 hgr2 hnew2; have HO2 := Lib.hid hown2; have HB4 := Lib.hid (app_own HB3.out HO3.out hgr2); clear hown2 hgr2 hnew2) | (at_builtin; refine wpList_append_rd rfl (.tmp 59) (.tmp 62) 23 rfl w.heap.size 47 i0 _ 2 24 Try.underlying23 hi hz0 hz1 hz2 rfl (by decide) _ (j + 1) _ rfl HO2.out (some ⟨bb, j * 2, none⟩) (l.length - j) (cap - j) (by first | rfl | (simp [Act.eval, hcj]; done)) (namesV (l.drop j)) (by rw [namesV_length, List.length_drop]) (htl w4 HB4.out) (namesV_one _) (by omega) (by unfold maxLen; omega) HB4.out.size ?_; intro v5 w5 hown5 hgr5 hnew5 hnil5; have HO5 := Lib.hid hown5; have HB5 := Lib.hid (app_own HB4.out HO2.out hgr5); clear hown5 hgr5 hnew5 hnil5))
              go_ret3
              refine ⟨_, rfl, ?_, HB5.out⟩
              have hfin := HO5.out
              rw [namesV_snoc (l.take j) (s, (t : Int)), ← namesV_append, show j + 1 + (l.length - j) = l.length + 1 by omega] at hfin
              rw [addL_length hil]
              unfold addL
              rw [List.append_cons]
              exact hfin
            · obtain rfl : j = l.length := by omega
              rcases HFm.out with ⟨rfl, h0, rfl⟩ | ⟨g, rfl⟩
              · obtain rfl : l = [] := List.eq_nil_of_length_eq_zero h0
                go_wp2_with (first | (at_builtin; refine wpList_append_new rfl (.tmp 53) (.tmp 57) 23 rfl w.heap.size 47 i0 _ 2 24 Try.underlying23 hi hz0 hz1 hz2 rfl (by decide) _ 0 1 _ rfl ho.out rfl rfl (two_one13 _ _) (by omega) (by unfold maxLen; omega) hb.out.size ?_; intro v2 w4 hown2 hgr2 hnew2; have HO2 := Lib.hid hown2; have HB4 := Lib.hid (app_own hb.out ho.out hgr2); clear hown2 hgr2 hnew2) | (at_builtin; refine wpList_append_rd rfl (.tmp 59) (.tmp 62) 23 rfl w.heap.size 47 i0 _ 2 24 Try.underlying23 hi hz0 hz1 hz2 rfl (by decide) _ 1 _ rfl HO2.out none 0 0 rfl [] rfl (.inl rfl) (fun u hu => by cases hu) (by omega) (by unfold maxLen; omega) HB4.out.size ?_; intro v5 w5 hown5 hgr5 hnew5 hnil5; have HO5 := Lib.hid hown5; have HB5 := Lib.hid (app_own HB4.out HO2.out hgr5); clear hown5 hgr5 hnew5 hnil5))
                go_ret3
                exact ⟨_, rfl, HO5.out, HB5.out⟩
              · 
                obtain ⟨ad, had, htl⟩ : ∃ ad : Addr, (if cap = l.length then some (⟨g, 0, none⟩ : Addr) else some ⟨g, l.length * 2, none⟩) = some ad ∧ ∀ w', Below w.heap.size w w' → RdAt w' (some ad) (l.length - l.length) (namesV (l.drop l.length)) := by
                  by_cases hc : cap = l.length
                  · exact ⟨_, if_pos hc, fun w' hb => .inl (by omega)⟩
                  · exact ⟨_, if_neg hc, fun w' hb => (HL.out.below (hb.mono (Nat.le_refl _))).tail⟩
                have hic : l.length ≤ cap := by omega
                go_wp2_with (first | (at_builtin; refine wpList_append_new rfl (.tmp 53) (.tmp 57) 23 rfl w.heap.size 47 i0 _ 2 24 Try.underlying23 hi hz0 hz1 hz2 rfl (by decide) _ l.length 1 _ rfl ho.out rfl rfl (two_one13 _ _) (by omega) (by unfold maxLen; omega) hb.out.size ?_; intro v2 w4 hown2 hgr2 hnew2; have HO2 := Lib.hid hown2; have HB4 := Lib.hid (app_own hb.out ho.out hgr2); clear hown2 hgr2 hnew2) | (at_builtin; refine wpList_append_rd rfl (.tmp 59) (.tmp 62) 23 rfl w.heap.size 47 i0 _ 2 24 Try.underlying23 hi hz0 hz1 hz2 rfl (by decide) _ (l.length + 1) _ rfl HO2.out (some ad) (l.length - l.length) (cap - l.length) (by first | (simp [Act.eval, had]; done) | (simp [Act.eval]; exact had)) (namesV (l.drop l.length)) (by rw [namesV_length, List.length_drop]) (htl w4 HB4.out) (namesV_one _) (by omega) (by unfold maxLen; omega) HB4.out.size ?_; intro v5 w5 hown5 hgr5 hnew5 hnil5; have HO5 := Lib.hid hown5; have HB5 := Lib.hid (app_own HB4.out HO2.out hgr5); clear hown5 hgr5 hnew5 hnil5))
                go_ret3
                refine ⟨_, rfl, ?_, HB5.out⟩
                have hfin := HO5.out
                rw [namesV_snoc (l.take l.length) (s, (t : Int)), ← namesV_append, show l.length + 1 + (l.length - l.length) = l.length + 1 by omega] at hfin
                rw [addL_length hil]
                unfold addL
                rw [List.append_cons]
                exact hfin
end Go.Proofs.Ytanfjiccilibcaa
