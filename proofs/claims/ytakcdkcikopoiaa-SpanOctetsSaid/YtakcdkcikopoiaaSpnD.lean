/- The document's spans (mothballref15): Right, New. -/
import Derived.Test.YtakcdkcikopoiaaSpnB
import Derived.Test.YtakcdkcikopoiaaTail
namespace Go.Proofs.Ytakcdkcikopoiaa
open Go.RowKit
set_option linter.unusedVariables false

theorem Good.right {pg ps cl : Int} {len : Nat} {f : Nat → Bool} (h : Good pg ps cl len f) (hc : 0 < cntF f (perN cl)) : rightP pg ps cl len f := by
  have h1 := h.p1
  have h2 := h.p2
  have h3 := h.p3
  refine ⟨decide_eq_true (by omega), ?_⟩
  rcases h.fit with ⟨rfl, h4⟩ | ⟨h4, h5, h6⟩
  · refine .inl ⟨rfl, h4, ?_⟩
    have e2 : perN 255 = 1 := rfl
    have hl := h.live
    rw [e2] at hl hc
    have hlen : len = 1 := hl.1
    have h0 : f 0 = true := by
      cases hf : f 0
      · simp [cntF, hf] at hc
      · rfl
    refine decide_eq_true ⟨hlen, ?_⟩
    have : wd f 0 = wd bit0 0 := wd_congr fun b hb => by
      rw [Nat.mul_zero, Nat.zero_add]
      by_cases h : b = 0
      · rw [h, h0]; rfl
      · rw [hl.2 b (by omega), bit0_out b (by omega)]
    rw [this, wd_bit0]
  · exact .inr ⟨h4, h5, h6, h.live, hc⟩
/-- Is it right? -/
def RgtR (pg ps cl : Int) (len : Nat) (f : Nat → Bool) (w : World) (e : Ending) (w' : World) : Prop :=
  ∃ b : Bool, e = .returned (.bool b) ∧ (b = true ↔ Good pg ps cl len f ∧ 0 < cntF f (perN cl)) ∧ Below w.heap.size w w'
theorem rg_no {pg ps cl : Int} {len : Nat} {f : Nat → Bool} {w w' : World} {e : Ending} (he : e = .returned (.bool false)) (hn : Good pg ps cl len f → ¬ 0 < cntF f (perN cl)) (hb : Below w.heap.size w w') : RgtR pg ps cl len f w e w' :=
  ⟨false, he, ⟨fun h => (by cases h), fun h => absurd h.2 (hn h.1)⟩, hb⟩
theorem rg_yes {pg ps cl : Int} {len : Nat} {f : Nat → Bool} {w w' : World} {e : Ending} (he : e = .returned (.bool true)) (hn : Good pg ps cl len f) (hc : 0 < cntF f (perN cl)) (hb : Below w.heap.size w w') : RgtR pg ps cl len f w e w' :=
  ⟨true, he, ⟨fun _ => ⟨hn, hc⟩, fun _ => rfl⟩, hb⟩
set_option maxHeartbeats 4000000 in
theorem right15_calls (pg ps cl : Int) (A : Option Addr) (len cap : Nat) (f : Nat → Bool) (w : World) (h1 : I64 pg) (h2 : I64 ps) (h3 : I64 cl) (h : WordsAt w A len f) :
    Calls Try.prog 12 #[spV pg ps cl A len cap] w (RgtR pg ps cl len f w) := by
  obtain ⟨w1, hw1, hS, hB⟩ := one_span w pg ps cl A len cap
  have HB := Lib.hid hB
  have HS := Lib.hid hS
  have HW := Lib.hid (h.below hB)
  have H1 := Lib.hid h1
  have H2 := Lib.hid h2
  have H3 := Lib.hid h3
  obtain ⟨s0, s1, s2, s3⟩ := hS.cells
  have hPle := perN_le cl
  unfold I64 at h1 h2 h3
  clear h hS hB
  unfold spV
  by_cases hp : 1 ≤ pg ∧ 1 ≤ ps ∧ ps ≤ 4096 ∧ pg ≤ 4096 - ps
  · obtain ⟨p1, p2, p3, p4⟩ := hp
    go_enter Try.func12, Try.ntmps12
    go_wp2_with fail
    refine (bits15_calls pg ps cl A len cap f _ H3.out HW.out).mono ?_
    rintro e w2 ⟨hb, ⟨hno, rfl⟩ | ⟨v, hok, rfl, hown⟩⟩
    · have HB2 := Lib.hid (bel_next HB.out hb (Nat.le_refl _))
      have HN := Lib.hid hno
      clear hb hno
      go_wp2
      go_ret
      exact rg_no rfl (fun h => absurd h.live HN.out) HB2.out
    obtain ⟨B, cb, rfl⟩ := ownsRow_slice hown
    have HB2 := Lib.hid (bel_next HB.out hb (Nat.le_refl _))
    have HS2 := Lib.hid (HS.out.below hb)
    have HR := Lib.hid (RdAt.of_own hown)
    have HOk := Lib.hid hok
    obtain ⟨s0, s1, s2, s3⟩ := HS2.out.cells
    clear hb hok hown hw1
    go_wp2_with fail
    refine (live15_calls _ B (perN cl) cb f HR.out (by omega)).mono ?_
    rintro e w3 ⟨rfl, rfl⟩
    by_cases hk : 0 < cntF f (perN cl)
    · have HK := Lib.hid hk
      have hkb : ((cntF f (perN cl) : Int) == 0) = false := by rw [beq_eq_false_iff_ne]; omega
      generalize cntF f (perN cl) = k at hk hkb ⊢
      by_cases hc : cl = 255
      · subst hc
        by_cases h3p : 3 ≤ ps
        · go_wp2
          go_ret
          exact rg_yes rfl ⟨p1, p2, by omega, HOk.out, .inl ⟨rfl, h3p⟩⟩ HK.out HB2.out
        · go_wp2
          go_ret
          refine rg_no (ret_bool (decide_eq_false (by omega))) (fun h => ?_) HB2.out
          rcases h.fit with ⟨_, h⟩ | ⟨h, _⟩
          · omega
          · exact absurd rfl h
      · have hcb : (cl == 255) = false := by simpa using hc
        have HCn := Lib.hid hc
        have HSd := Lib.hid (show SpB w2.drew w.heap.size pg ps cl A len cap from HS2.out)
        have HBd := Lib.hid (show Below w.heap.size w w2.drew from HB2.out.drew)
        have HE := Lib.hid (show sizeS cl ps = sizeL cl from if_neg hc)
        clear hc hk
        by_cases hs : sizeL cl = 0
        · have hs2 : ¬ 0 < sizeL cl := by omega
          have HS0 := Lib.hid hs
          clear hs
          go_wp2_with fail
          refine wp_region_any (by kernel_rfl) ?_
          change wpAny _ _ _ _ _ _ _ (World.drew _)
          refine wpAny_ready (rs := [0]) (by kernel_rfl) (by simp) ?_
          refine AllReady.cons rfl (fun K hK => ?_) AllReady.nil
          go_simp
          refine hK _ _ ?_
          clear hK K
          refine wpAny_ready (rs := [1]) (by kernel_rfl) (by simp) ?_
          refine AllReady.cons rfl (fun K hK => ?_) AllReady.nil
          go_simp
          go_wp2_with (go_at_call 37; refine (size15_calls pg ps cl A len cap _ H2.out H3.out).mono ?_; rintro e w5 ⟨rfl, hb⟩; rw [HE.out, HS0.out])
          try clear hK K
          obtain ⟨s0, s1, s2, s3⟩ := (HSd.out.below hb).cells
          have HBd := Lib.hid (bel_next HBd.out hb (Nat.le_refl _))
          clear hb
          refine wpAny_tail 2 (by kernel_rfl) (by rfl) (by kernel_rfl) ?_
          change wpQuiet _ _ _ _ (_ :: _) _
          repeat (go_big_quiet_step (fail))
          refine wpQuiet_nil ?_
          intro wq hw'
          obtain ⟨nq, hw''⟩ := hw'
          subst hw''
          go_wp2
          go_ret
          refine rg_no rfl (fun h => ?_) (below_drewN HBd.out nq)
          rcases h.fit with ⟨h, _⟩ | ⟨_, h, _⟩
          · exact absurd h HCn.out
          · exact absurd HS0.out h
        · have hs2 : 0 < sizeL cl := by have := cls_facts cl hs; omega
          have HS0 := Lib.hid hs
          clear hs
          have hfin : ∀ b : Bool, (pagesL cl == ps) = b → ∀ w', Below w.heap.size w w' → RgtR pg ps cl len f w (.returned (.bool b)) w' := by
            intro b hb w' hB
            cases b
            · refine rg_no rfl (fun h => ?_) hB
              rcases h.fit with ⟨h, _⟩ | ⟨_, _, h⟩
              · exact absurd h HCn.out
              · rw [beq_eq_false_iff_ne] at hb; exact absurd h hb
            · exact rg_yes rfl ⟨p1, p2, by omega, HOk.out, .inr ⟨HCn.out, HS0.out, by simpa using hb⟩⟩ HK.out hB
          have HFin := Lib.hid (hfin _ rfl)
          clear hfin
          go_wp2_with fail
          go_region_with (first | (go_at_call 37; refine (size15_calls pg ps cl A len cap _ H2.out H3.out).mono ?_; rintro e w5 ⟨rfl, hb⟩; rw [HE.out]; obtain ⟨s0, s1, s2, s3⟩ := (HSd.out.below hb).cells; have HBd := Lib.hid (bel_next HBd.out hb (Nat.le_refl _)); have HSd := Lib.hid (HSd.out.below hb); clear hb) | (go_at_call 30; refine (rpages_calls cl _ h3.1 h3.2).mono ?_; rintro e w6 ⟨rfl, hb⟩; obtain ⟨s0, s1, s2, s3⟩ := (HSd.out.below hb).cells; have HBd := Lib.hid (bel_next HBd.out hb (Nat.le_refl _)); have HSd := Lib.hid (HSd.out.below hb); clear hb))
          all_goals
            go_wp2
            go_ret
            exact HFin.out _ HBd.out
    · have HK := Lib.hid hk
      have hk0 : cntF f (perN cl) = 0 := by omega
      rw [hk0]
      clear hk hk0
      go_wp2
      go_ret
      exact rg_no rfl (fun h => HK.out) HB2.out
  · have hx : pg < 1 ∨ (1 ≤ pg ∧ ps < 1) ∨ (1 ≤ pg ∧ 1 ≤ ps ∧ 4096 < ps) ∨ (1 ≤ pg ∧ 1 ≤ ps ∧ ps ≤ 4096 ∧ 4096 - ps < pg) := by omega
    have HN : Hid (Good pg ps cl len f → ¬ 0 < cntF f (perN cl)) := Lib.hid fun h => by have q1 := h.p1; have q2 := h.p2; have q3 := h.p3; omega
    clear hp
    rcases hx with h | ⟨h, h'⟩ | ⟨h, h', h''⟩ | ⟨h, h', h'', h'''⟩
    all_goals
      go_enter Try.func12, Try.ntmps12
      go_wp2
      go_ret
      exact rg_no rfl HN.out HB.out
end Go.Proofs.Ytakcdkcikopoiaa
