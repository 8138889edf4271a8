/- The document's board (mothballref09): Run, Give. -/
import Derived.Test.YtajfigihliafeaaR9U
namespace Go.Proofs.Ytajfigihliafeaa
open Go.RowKit
set_option linter.unusedVariables false

def Run9R (w : World) (q u n : Nat) (f : Nat → Bool) (k : Nat) (e : Ending) (w' : World) : Prop :=
  (e = .returned (.tuple #[.int .i64 0, .int .i64 12]) ∧ FindR f n k (-1) ∧ w = w') ∨
  ∃ p : Nat, e = .returned (.tuple #[.int .i64 p, .int .i64 0]) ∧ FindR f n k p ∧ R9At w' q u n (fillF f p k true) ∧ Only (· = u) w w'
theorem run9_bad (w : World) (q : Nat) (k : Int) (h : k < 1 ∨ 64 < k) :
    Calls Try.prog 18 #[.pointer (some ⟨q, 0, none⟩), .int .i64 k] w fun e w' => e = .returned (.tuple #[.int .i64 0, .int .i64 2]) ∧ w = w' := by
  rcases h with h | h
  · go_enter Try.func18, Try.ntmps18
    go_wp2
    go_ret2
    exact ⟨rfl, rfl⟩
  · have h' : ¬ k < 1 := by omega
    go_enter Try.func18, Try.ntmps18
    go_wp2
    go_ret2
    exact ⟨rfl, rfl⟩

set_option maxHeartbeats 4000000 in
theorem run9_calls (w : World) (q u n : Nat) (f : Nat → Bool) (k : Nat) (h : R9At w q u n f) (hk1 : 1 ≤ k) (hk2 : k ≤ 64) :
    Calls Try.prog 18 #[.pointer (some ⟨q, 0, none⟩), .int .i64 k] w (Run9R w q u n f k) := by
  have HR := Lib.hid h
  have hn := h.2.1.2
  have d0 := h.2.2.1.cell 0
  simp only [List.getElem?_cons_zero] at d0
  clear h
  go_enter Try.func18, Try.ntmps18
  go_wp2_with fail
  go_loopg [6, 7] (n + 1) (fun g ai ii wr => ∃ p : Nat, g + p = n + 1 ∧ ai = .int .i64 p ∧ Hid (∀ y, y < p → y + k ≤ n → ∃ x, y ≤ x ∧ x < y + k ∧ f x = true) ∧ w = wr)
  case atStart => exact ⟨0, by omega, rfl, Lib.hid (fun y h => by omega), rfl⟩
  case round =>
    obtain ⟨p, hp, rfl, hP, rfl⟩ := hrel
    by_cases hlt : p + k ≤ n
    · have hlti : ¬ (n : Int) - (k : Int) < (p : Int) := by omega
      go_wp2_with fail
      go_loopg [7] (k + 1) (fun g ii wr => ∃ t : Nat, g + t = k + 1 ∧ t ≤ k ∧ ii = .int .i64 ((p + t : Nat) : Int) ∧ Hid (∀ x, p ≤ x → x < p + t → f x = false) ∧ w = wr)
      case atStart => exact ⟨0, by omega, by omega, by go_num, Lib.hid (fun x h1 h2 => by omega), rfl⟩
      case round =>
        obtain ⟨t, ht, htk, rfl, hT, rfl⟩ := hrel
        obtain ⟨x, hx⟩ : ∃ x, p + t = x := ⟨_, rfl⟩
        have HX := Lib.hid hx
        by_cases hlt2 : t < k
        · have hxn : x < n := by omega
          have hxk : x < p + k := by omega
          have dx := HR.out.2.2.2.cell x
          rw [fnV_at _ _ _ hxn] at dx
          cases hf : f x
          · have HN := Lib.hid (show ∀ y, p ≤ y → y < p + (t + 1) → f y = false from fun y h1 h2 => by
              by_cases h : y = x
              · rw [h]; exact hf
              · exact hT.out y h1 (by omega))
            rw [hf] at dx
            rw [hx]
            clear hx hf
            go_wp2
            go_roundg (gk - 1)
            case measure => omega
            case rel => exact ⟨t + 1, by omega, by omega, by have := HX.out; go_num, HN, rfl⟩
          · have HN := Lib.hid (show ∀ y, y < p + 1 → y + k ≤ n → ∃ x, y ≤ x ∧ x < y + k ∧ f x = true from fun y h1 h2 => by
              by_cases h : y = p
              · exact ⟨x, by omega, by omega, hf⟩
              · exact hP.out y (by omega) h2)
            have hne : ((x : Int) == (p : Int) + (k : Int)) = false := by rw [beq_eq_false_iff_ne]; omega
            rw [hf] at dx
            rw [hx]
            clear hx hf
            go_wp2
            go_roundg (n + 1 - (p + 1))
            case measure => omega
            case rel => exact ⟨p + 1, by omega, by go_num, HN, rfl⟩
        · obtain rfl : t = k := by omega
          have HH := Lib.hid hT.out
          have HF := Lib.hid (show FindR f n t (p : Int) from .inr ⟨p, rfl, hlt, hT.out, fun y hy => hP.out y hy (by omega)⟩)
          have heq : ((x : Int) == (p : Int) + (t : Int)) = true := by rw [beq_iff_eq]; omega
          have hxk : ¬ x < p + t := by omega
          rw [hx]
          clear hx
          go_wp2_with fail
          go_loopg [7] t (fun g ii wr => ∃ y : Nat, g + y = t ∧ ii = .int .i64 ((p + y : Nat) : Int) ∧ R9At wr q u n (fillF f p y true) ∧ Only (· = u) w wr)
          case atStart => exact ⟨0, by omega, by go_num, by rw [fillF_zero]; exact HR.out, Only.refl _ _⟩
          case round =>
            obtain ⟨y, hy, rfl, hr, ho⟩ := hrel
            have HRy := Lib.hid hr
            have HOy := Lib.hid ho
            by_cases hlt3 : y < t
            · obtain ⟨s, hs⟩ : ∃ s, p + y = s := ⟨_, rfl⟩
              have HS := Lib.hid hs
              have hsn : s < n := by omega
              have hsk : s < p + t := by omega
              have e0 := hr.2.2.1.cell 0
              simp only [List.getElem?_cons_zero] at e0
              have ds := hr.2.2.2.cell s
              rw [fnV_at _ _ _ hsn] at ds
              have fs := hr.2.2.2.free s
              have hn2 := hr.turned s true
              rw [← hs, fillF_succ, hs] at hn2
              have HN := Lib.hid hn2
              rw [hs]
              clear hr ho hs hn2
              go_wp2
              go_roundg (gk - 1)
              case measure => omega
              case rel => exact ⟨y + 1, by omega, by have := HS.out; go_num, HN.out, only_u HOy.out rfl⟩
            · obtain rfl : y = t := by omega
              clear hr ho
              go_wp2
              go_ret2
              exact .inr ⟨p, rfl, HF.out, HRy.out, HOy.out⟩
    · have hlti : (n : Int) - (k : Int) < (p : Int) := by omega
      have HN := Lib.hid (show FindR f n k (-1) from .inl ⟨rfl, fun y hy => hP.out y (by omega) hy⟩)
      go_wp2
      go_ret2
      exact .inl ⟨rfl, HN.out, rfl⟩

def Give9R (w : World) (q u n : Nat) (f : Nat → Bool) (zs : List Int) (e : Ending) (w' : World) : Prop :=
  Only (· = u) w w' ∧ ((e = .returned (.int .i64 2) ∧ ¬ GvTo n f zs zs.length ∧ R9At w' q u n f) ∨ (e = .returned (.int .i64 0) ∧ GvTo n f zs zs.length ∧ R9At w' q u n (clrL f zs)))
theorem memB_nat_false {zs : List Int} {j : Nat} {z : Int} (h : ∀ i y, i < j → zs[i]? = some y → y ≠ z) : memB (zs.take j) z = false := memB_not fun hin => by
  obtain ⟨i, hi⟩ := List.getElem?_of_mem hin
  have hlt : i < j := by have := (List.getElem?_eq_some_iff.1 hi).1; rw [List.length_take] at this; omega
  rw [List.getElem?_take_of_lt hlt] at hi
  exact h i z hlt hi rfl

set_option maxRecDepth 8000 in
set_option maxHeartbeats 8000000 in
theorem give9_calls (w : World) (q u n : Nat) (f : Nat → Bool) (A : Option Addr) (len cp : Nat) (zs : List Int) (h : R9At w q u n f) (hz : IntsAt w A len zs) (hl : len ≤ 100000)
    (hd : ∀ b o, A = some ⟨b, o, none⟩ → 0 < len → b ≠ u) :
    Calls Try.prog 19 #[.pointer (some ⟨q, 0, none⟩), .slice A len cp] w (Give9R w q u n f zs) := by
  have HR := Lib.hid h
  have HZ := Lib.hid hz
  have HD := Lib.hid hd
  have hn := h.2.1.2
  have hzl := hz.1
  clear h hz hd
  go_enter Try.func19, Try.ntmps19
  go_wp2_with fail
  go_loopg [5] len (fun g i wr => ∃ j : Nat, g + j = len ∧ i = .int .i64 j ∧ Hid (GvTo n f zs j) ∧ Only (fun _ => False) w wr)
  case atStart => exact ⟨0, by omega, rfl, Lib.hid (fun i z h => by omega), Only.refl _ _⟩
  case round =>
    obtain ⟨j, hj, rfl, hg, ho⟩ := hrel
    have hrr := HR.out.only ho (fun h => h) (fun h => h)
    have HRr := Lib.hid hrr
    have hzr := HZ.out.only ho (fun _ _ _ _ h => h)
    have HZr := Lib.hid hzr
    have HO := Lib.hid ho
    by_cases hlt : j < len
    · obtain ⟨bb, oo, rfl, hbb, hc⟩ := hzr.2.2.resolve_left (by omega)
      have hcj := hc j hlt
      obtain ⟨z, hzj⟩ : ∃ z, zs[j]? = some z := ⟨zs[j]'(by omega), List.getElem?_eq_getElem (by omega)⟩
      rw [hzj] at hcj
      simp only [Option.getD_some] at hcj
      have hzb := hzr.2.1 z (List.mem_of_getElem? hzj)
      have HZj := Lib.hid hzj
      have d0 := hrr.2.2.1.cell 0
      simp only [List.getElem?_cons_zero] at d0
      have hj0 : (0 : Int) ≤ (j : Int) := by omega
      have hj1 : (j : Int) < (len : Int) := by omega
      clear ho hzr hc hzj
      by_cases hin : 0 ≤ z ∧ z < n
      · obtain ⟨x, rfl⟩ := Int.eq_ofNat_of_zero_le hin.1
        have hxn : x < n := by omega
        have dx := hrr.2.2.2.cell x
        rw [fnV_at _ _ _ hxn] at dx
        have g1 : decide ((x : Int) < 0) = false := decide_eq_false (by omega)
        have g2 : decide ((n : Int) ≤ (x : Int)) = false := decide_eq_false (by omega)
        have g3 : (0 : Int) ≤ (x : Int) := by omega
        have g4 : (x : Int) < (n : Int) := by omega
        clear hrr hin
        cases hfx : f x
        · have hbad : ¬ GvTo n f zs zs.length := fun h => by
            have := (h j x (by omega) HZj.out).1
            rw [hasB_nat n f x hxn, hfx] at this; cases this
          have HBad := Lib.hid hbad
          rw [hfx] at dx
          clear hfx hbad
          go_wp2_with fail
          go_quiet (fail)
          go_wp2
          go_ret
          exact ⟨(only_drewN HO.out nq).mono (fun _ _ h => h.elim), .inl ⟨rfl, HBad.out, HRr.out.drewN nq⟩⟩
        · have HB := Lib.hid (show hasB n f (x : Int) = true by rw [hasB_nat n f x hxn]; exact hfx)
          rw [hfx] at dx
          clear hfx
          go_wp2_with fail
          go_quiet (fail)
          go_wp2_with fail
          obtain ⟨wo, hwo⟩ : ∃ wo, wo = wr.drewN nq := ⟨_, rfl⟩
          rw [← hwo]
          have HOo := Lib.hid (show Only (fun _ => False) w wo by rw [hwo]; exact only_drewN HO.out nq)
          have HRo := Lib.hid (show R9At wo q u n f by rw [hwo]; exact HRr.out.drewN nq)
          have HZo := Lib.hid (show IntsAt wo (some ⟨bb, oo, none⟩) len zs by rw [hwo]; exact HZr.out.of_heap (Nat.le_refl _) (fun _ _ _ _ => rfl))
          clear hwo dx d0 hcj hbb
          go_loopg [6] j (fun g ki wx => ∃ t : Nat, g + t = j ∧ ki = .int .i64 t ∧ Hid (∀ i y, i < t → zs[i]? = some y → y ≠ (x : Int)) ∧ Only (fun _ => False) wo wx)
          case atStart => exact ⟨0, by omega, rfl, Lib.hid (fun i y h => by omega), Only.refl _ _⟩
          case round =>
            obtain ⟨t, ht, rfl, hno, ho⟩ := hrel
            have HOt := Lib.hid (HOo.out.trans ho (fun _ _ h => h))
            have HOx := Lib.hid ho
            have HRt := Lib.hid (HRo.out.only ho (fun h => h) (fun h => h))
            by_cases hlt2 : t < j
            · have hzr := HZo.out.only ho (fun _ _ _ _ h => h)
              obtain ⟨b', o', he, hb', hc⟩ := hzr.2.2.resolve_left (by omega)
              cases he
              have hct := hc t (by omega)
              have hcj := hc j hlt
              rw [HZj.out] at hcj
              obtain ⟨y, hyt⟩ : ∃ y, zs[t]? = some y := ⟨zs[t]'(by omega), List.getElem?_eq_getElem (by omega)⟩
              rw [hyt] at hct
              simp only [Option.getD_some] at hct hcj
              have HYt := Lib.hid hyt
              have ht0 : (0 : Int) ≤ (t : Int) := by omega
              have ht1 : (t : Int) < (len : Int) := by omega
              clear ho hzr hc hyt
              by_cases hyx : y = (x : Int)
              · have hyb : (y == (x : Int)) = true := by rw [beq_iff_eq]; exact hyx
                have hbad : ¬ GvTo n f zs zs.length := fun h => by
                  have h1 := (h j x (by omega) HZj.out).2
                  rw [(memB_iff _ _).2 (List.mem_of_getElem? (i := t) (by rw [List.getElem?_take_of_lt hlt2, HYt.out, hyx]))] at h1
                  cases h1
                have HBad := Lib.hid hbad
                clear hyx hbad
                go_wp2_with fail
                go_quiet (fail)
                go_wp2
                go_ret
                exact ⟨(only_drewN HOt.out nq).mono (fun _ _ h => h.elim), .inl ⟨rfl, HBad.out, HRt.out.drewN nq⟩⟩
              · have hyb : (y == (x : Int)) = false := by rw [beq_eq_false_iff_ne]; exact hyx
                have HN := Lib.hid (show ∀ i y', i < t + 1 → zs[i]? = some y' → y' ≠ (x : Int) from fun i y' hi hy' => by
                  by_cases e : i = t
                  · subst e; rw [HYt.out] at hy'; cases hy'; exact hyx
                  · exact hno.out i y' (by omega) hy')
                clear hyx
                go_wp2_with fail
                go_quiet (fail)
                go_wp2
                go_roundg (gk - 1)
                case measure => omega
                case rel => exact ⟨t + 1, by omega, by go_num, HN, only_drewN HOx.out nq⟩
            · obtain rfl : t = j := by omega
              have HN := Lib.hid (hg.out.succ HZj.out HB.out (memB_nat_false hno.out))
              clear ho
              go_wp2
              go_roundg (len - (t + 1))
              case measure => omega
              case rel => exact ⟨t + 1, by omega, by go_num, HN, HOt.out⟩
      · have hbad : ¬ GvTo n f zs zs.length := fun h => by
          have := (h j z (by omega) HZj.out).1
          rw [hasB_out n f z hin] at this; cases this
        have HBad := Lib.hid hbad
        clear hrr hbad
        by_cases h0 : z < 0
        · have g1 : decide (z < 0) = true := decide_eq_true h0
          clear hin
          go_wp2_with fail
          go_quiet (fail)
          go_wp2
          go_ret
          exact ⟨(only_drewN HO.out nq).mono (fun _ _ h => h.elim), .inl ⟨rfl, HBad.out, HRr.out.drewN nq⟩⟩
        · have g1 : decide (z < 0) = false := decide_eq_false h0
          have g2 : decide ((n : Int) ≤ z) = true := decide_eq_true (by omega)
          have g3 : (n : Int) ≤ z := by omega
          have g4 : 0 ≤ z := by omega
          clear hin h0
          go_wp2_with fail
          go_quiet (fail)
          go_wp2
          go_ret
          exact ⟨(only_drewN HO.out nq).mono (fun _ _ h => h.elim), .inl ⟨rfl, HBad.out, HRr.out.drewN nq⟩⟩
    · obtain rfl : j = len := by omega
      have HAll := Lib.hid (show GvTo n f zs zs.length by rw [hzl]; exact hg.out)
      clear ho hrr hzr
      go_wp2_with fail
      obtain ⟨wo, rfl⟩ : ∃ wo : World, wo = wr := ⟨_, rfl⟩
      go_loopg [7] j (fun g i wx => ∃ t : Nat, g + t = j ∧ i = .int .i64 t ∧ R9At wx q u n (clrL f (zs.take t)) ∧ Only (· = u) wo wx)
      case atStart => exact ⟨0, by omega, rfl, by rw [List.take_zero, clrL_nil]; exact HRr.out, Only.refl _ _⟩
      case round =>
        obtain ⟨t, ht, rfl, hr, ho⟩ := hrel
        have HRt := Lib.hid hr
        have HOt := Lib.hid ho
        by_cases hlt2 : t < j
        · have hzr := HZr.out.only ho (fun b o he hl => HD.out b o he hl)
          obtain ⟨bb, oo, rfl, hbb, hc⟩ := hzr.2.2.resolve_left (by omega)
          have hct := hc t hlt2
          obtain ⟨z, hzt⟩ : ∃ z, zs[t]? = some z := ⟨zs[t]'(by omega), List.getElem?_eq_getElem (by omega)⟩
          rw [hzt] at hct
          simp only [Option.getD_some] at hct
          obtain ⟨h1, h2⟩ := HAll.out t z (by omega) hzt
          have hin : 0 ≤ z ∧ z < n := by
            by_cases hz : 0 ≤ z ∧ z < n
            · exact hz
            · rw [hasB_out n f z hz] at h1; cases h1
          obtain ⟨x, rfl⟩ := Int.eq_ofNat_of_zero_le hin.1
          have hxn : x < n := by omega
          have hts : clrL f (zs.take (t + 1)) = put (clrL f (zs.take t)) x false := by
            rw [List.take_add_one, hzt]; exact clrL_snoc f _ x
          have HTs := Lib.hid hts
          have d0 := hr.2.2.1.cell 0
          simp only [List.getElem?_cons_zero] at d0
          have dx := hr.2.2.2.cell x
          rw [fnV_at _ _ _ hxn] at dx
          have fx := hr.2.2.2.free x
          have ht0 : (0 : Int) ≤ (t : Int) := by omega
          have ht1 : (t : Int) < (j : Int) := by omega
          have hx0 : (0 : Int) ≤ (x : Int) := by omega
          have hx1 : (x : Int) < (n : Int) := by omega
          clear hr ho hzr hc hzt h1 h2 hin hts
          go_wp2_with fail
          go_region
          have HN := Lib.hid ((HRt.out.turned x false).drewN 1)
          have HOn := Lib.hid ((only_u (i := x) (v := .bool false) HOt.out rfl).drew)
          go_wp2
          go_roundg (gk - 1)
          case measure => omega
          case rel => exact ⟨t + 1, by omega, by go_num, by rw [HTs.out]; exact HN.out, HOn.out⟩
        · obtain rfl : t = j := by omega
          clear hr ho
          go_wp2
          go_ret
          refine ⟨(HO.out.mono (fun _ _ h => h.elim)).trans HOt.out (fun _ _ h => h), .inr ⟨rfl, HAll.out, ?_⟩⟩
          have := HRt.out
          rw [List.take_of_length_le (Nat.le_of_eq hzl)] at this
          exact this
end Go.Proofs.Ytajfigihliafeaa
