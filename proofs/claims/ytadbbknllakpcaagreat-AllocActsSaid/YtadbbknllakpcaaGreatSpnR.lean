/- The walks through package span: row, Right; slices.Equal of words. -/
import Derived.Test.YtadbbknllakpcaaGreatSpn
namespace Go.Proofs.YtadbbknllakpcaaGreat
open Go.RowKit
set_option linter.unusedVariables false

/-- A slice of words as it is read: its bits. -/
def WordsAt (w : World) (A : Option Addr) (len : Nat) (f : Nat → Bool) : Prop := RdAt w A len (wdV len f) ∧ (∀ i, 64 * len ≤ i → f i = false) ∧ len ≤ 9223372036854775807
theorem WordsAt.below {w w' : World} {A : Option Addr} {len : Nat} {f : Nat → Bool} (h : WordsAt w A len f) (hb : Below w.heap.size w w') : WordsAt w' A len f := ⟨h.1.below hb, h.2⟩
theorem WordsAt.alloc {w : World} {A : Option Addr} {len : Nat} {f : Nat → Bool} (h : WordsAt w A len f) (o : Obj) : WordsAt (w.alloc o) A len f := ⟨h.1.alloc o, h.2⟩
def LiveOk (P len : Nat) (f : Nat → Bool) : Prop := len = wn P ∧ ∀ i, P ≤ i → f i = false
def RowR (P len : Nat) (f : Nat → Bool) (w : World) (e : Ending) (w' : World) : Prop :=
  Below w.heap.size w w' ∧ ((e = .returned (.pointer none) ∧ ¬ LiveOk P len f) ∨ ∃ r a c, e = .returned (.pointer (some ⟨r, 0, none⟩)) ∧ LiveOk P len f ∧ RowAt w' r a c P f ∧ w.heap.size ≤ r ∧ w.heap.size ≤ a ∧ w.heap.size ≤ c)
/-- How many objects there may be, as a natural number. -/
def perN (cl : Int) : Nat := (perS cl).toNat
theorem perN_cast (cl : Int) : perS cl = ((perN cl : Nat) : Int) := by have := perS_bd cl; unfold perN; omega
theorem perN_le (cl : Int) : perN cl ≤ 32 := by have := perS_bd cl; unfold perN; omega
theorem load_any (w : World) (n : Nat) (A : Option Addr) (len cap : Nat) (f : Nat → Bool) (hn : n ≤ 65536) (h : WordsAt w A len f) :
    Calls Tryz.prog 82 #[.int .i64 n, .slice A len cap] w fun e w' => Below w.heap.size w w' ∧ ((e = .returned (.tuple #[.pointer none, .int .i64 2]) ∧ ¬ LiveOk n len f) ∨
      ∃ r a c, e = .returned (.tuple #[.pointer (some ⟨r, 0, none⟩), .int .i64 0]) ∧ LiveOk n len f ∧ RowAt w' r a c n f ∧ w.heap.size ≤ r ∧ w.heap.size ≤ a ∧ w.heap.size ≤ c) := by
  by_cases hl : len = wn n
  · subst hl
    refine (load_gen w n A cap f hn h.1 h.2.1).mono fun e w' ⟨hb, hc⟩ => ⟨hb, ?_⟩
    rcases hc with ⟨h1, i, hi, hf⟩ | ⟨r, a, c, h1, h2, h3⟩
    · exact .inl ⟨h1, fun hk => by rw [hk.2 i hi] at hf; cases hf⟩
    · exact .inr ⟨r, a, c, h1, ⟨rfl, h2⟩, h3⟩
  · exact (load_len w n A len cap hn hl).mono fun e w' ⟨h1, hb⟩ => ⟨hb, .inl ⟨h1, fun hk => hl hk.1⟩⟩
set_option maxHeartbeats 1000000 in
theorem row_calls (pg ps cl : Int) (A : Option Addr) (len cap : Nat) (f : Nat → Bool) (w : World) (h1 : I64 pg) (h2 : I64 ps) (h3 : I64 cl) (h : WordsAt w A len f) :
    Calls Tryz.prog 56 #[spV pg ps cl A len cap] w (RowR (perN cl) len f w) := by
  have HW := Lib.hid (h.alloc (.cells #[.int .i64 pg, .int .i64 ps, .int .i64 cl, .slice A len cap] 27))
  have HB := Lib.hid ((Below.refl w.heap.size w).alloc (Nat.le_refl _) (.cells #[.int .i64 pg, .int .i64 ps, .int .i64 cl, .slice A len cap] 27))
  have HBk := Lib.hid (Blk.new w #[.int .i64 pg, .int .i64 ps, .int .i64 cl, .slice A len cap] 27)
  have hP := perN_le cl
  unfold spV
  clear h
  go_enter Tryz.func56, Tryz.ntmps56
  go_wp2_with fail
  refine (sizes_calls pg ps cl A len cap _ h1 h2 h3).mono ?_
  rintro e w1 ⟨rfl, hb⟩
  have HB1 := Lib.hid (bel_next HB.out hb (by simp))
  have HW1 := Lib.hid (HW.out.below hb)
  have hbk := HBk.out.below hb
  have c3 := hbk.cell 3
  simp at c3
  rw [perN_cast]
  clear hb hbk
  go_wp2_with fail
  refine (load_any _ (perN cl) A len cap f (by omega) HW1.out).mono ?_
  rintro e w2 ⟨hb, ⟨rfl, hno⟩ | ⟨r, a, c, rfl, hok, hr, g1, g2, g3⟩⟩
  · have HB2 := Lib.hid (bel_next HB1.out hb (Nat.le_refl _))
    have HN := Lib.hid hno
    clear hb hno
    go_wp2
    go_ret
    exact ⟨HB2.out, .inl ⟨rfl, HN.out⟩⟩
  · have HB2 := Lib.hid (bel_next HB1.out hb (Nat.le_refl _))
    have HN := Lib.hid hok
    have HR := Lib.hid hr
    have hs := HB1.out.size
    clear hb hok hr
    go_wp2
    go_ret
    exact ⟨HB2.out, .inr ⟨r, a, c, rfl, HN.out, HR.out, by omega, by omega, by omega⟩⟩

def eq1B (len : Nat) (f : Nat → Bool) : Bool := decide (len = 1 ∧ wd f 0 = 1)
set_option maxHeartbeats 1000000 in
theorem eq1_calls (w : World) (A B : Option Addr) (len cap : Nat) (f : Nat → Bool) (h : WordsAt w A len f) (hB : RdAt w B 1 [.int .u64 1]) :
    Calls Tryz.prog 55 #[.slice A len cap, .slice B 1 1] w fun e w' => e = .returned (.bool (eq1B len f)) ∧ Below w.heap.size w w' := by
  by_cases hl : len = 1
  · subst hl
    obtain ⟨b1, o1, rfl, _, hc1⟩ := h.1.resolve_left (by omega)
    obtain ⟨b2, o2, rfl, _, hc2⟩ := hB.resolve_left (by omega)
    have x1 := hc1 0 _ (wdV_at 1 f 0 (by omega))
    have x2 := hc2 0 _ rfl
    simp only [Nat.add_zero] at x1 x2
    have hl2 := wd_lt f 0
    clear h hB hc1 hc2
    by_cases he : wd f 0 = 1
    · have hx : ((wd f 0 : Int) != 1) = false := by rw [he]; rfl
      have e1 : eq1B 1 f = true := decide_eq_true ⟨rfl, he⟩
      rw [e1]
      clear he e1
      go_enter Tryz.func55, Tryz.ntmps55
      go_wp2_with fail
      go_loopg [13] 1 (fun q i wr => ∃ j : Nat, q + j = 1 ∧ i = .int .i64 j ∧ ∃ k, wr = w.drewN k)
      case atStart => exact ⟨0, by omega, rfl, 0, rfl⟩
      case round =>
        obtain ⟨j, hj, rfl, k, rfl⟩ := hrel
        by_cases h0 : j = 0
        · subst h0
          rw [show ((0 : Nat) : Int) = 0 from rfl]
          go_wp2_with fail
          go_quiet (fail)
          go_wp2
          go_roundg 0
          case measure => omega
          case rel => exact ⟨1, by omega, by go_num, _, rfl⟩
        · obtain rfl : j = 1 := by omega
          go_wp2
          go_ret
          exact ⟨rfl, below_drewN (Below.refl _ _) k⟩
    · have hx : ((wd f 0 : Int) != 1) = true := by rw [bne_iff_ne]; omega
      have e1 : eq1B 1 f = false := decide_eq_false (fun h => he h.2)
      rw [e1]
      clear he e1
      go_enter Tryz.func55, Tryz.ntmps55
      go_wp2_with fail
      go_loopg [13] 1 (fun q i wr => i = .int .i64 0 ∧ wr = w)
      case atStart => exact ⟨rfl, rfl⟩
      case round =>
        obtain ⟨rfl, rfl⟩ := hrel
        go_wp2_with fail
        go_quiet (fail)
        go_wp2
        go_ret
        exact ⟨rfl, below_drewN (Below.refl _ _) _⟩
  · have e1 : eq1B len f = false := decide_eq_false (fun h => hl h.1)
    have hne : ((len : Int) != 1) = true := by rw [bne_iff_ne]; omega
    have hln := h.2.2
    rw [e1]
    clear h hB hl e1
    go_enter Tryz.func55, Tryz.ntmps55
    go_wp2
    go_ret
    exact ⟨rfl, Below.refl _ _⟩

/-- May it be a span? -/
def rightP (pg ps cl : Int) (len : Nat) (f : Nat → Bool) : Prop :=
  placedB pg ps = true ∧ ((cl = 255 ∧ 3 ≤ ps ∧ eq1B len f = true) ∨ (cl ≠ 255 ∧ sizeL cl ≠ 0 ∧ pagesL cl = ps ∧ LiveOk (perN cl) len f ∧ 0 < cntF f (perN cl)))
def RightR (pg ps cl : Int) (len : Nat) (f : Nat → Bool) (w : World) (e : Ending) (w' : World) : Prop := ∃ b : Bool, e = .returned (.bool b) ∧ (b = true ↔ rightP pg ps cl len f) ∧ Below w.heap.size w w'
theorem rr_false {pg ps cl : Int} {len : Nat} {f : Nat → Bool} {w w' : World} {e : Ending} (he : e = .returned (.bool false)) (hn : ¬ rightP pg ps cl len f) (hb : Below w.heap.size w w') : RightR pg ps cl len f w e w' :=
  ⟨false, he, ⟨fun h => (by cases h), fun h => absurd h hn⟩, hb⟩
theorem rr_true {pg ps cl : Int} {len : Nat} {f : Nat → Bool} {w w' : World} {e : Ending} (he : e = .returned (.bool true)) (hn : rightP pg ps cl len f) (hb : Below w.heap.size w w') : RightR pg ps cl len f w e w' :=
  ⟨true, he, ⟨fun _ => hn, fun _ => rfl⟩, hb⟩
theorem not_placed {pg ps cl : Int} {len : Nat} {f : Nat → Bool} (h : placedB pg ps = false) : ¬ rightP pg ps cl len f := fun hp => by have h1 := hp.1; rw [h] at h1; cases h1
theorem not_big {pg ps : Int} {len : Nat} {f : Nat → Bool} (h : ¬ (3 ≤ ps ∧ eq1B len f = true)) : ¬ rightP pg ps 255 len f := fun hp => by
  rcases hp.2 with ⟨_, h1, h2⟩ | ⟨h1, _⟩
  · exact h ⟨h1, h2⟩
  · exact h1 rfl
theorem not_cls {pg ps cl : Int} {len : Nat} {f : Nat → Bool} (hc : cl ≠ 255) (h : ¬ (sizeL cl ≠ 0 ∧ pagesL cl = ps ∧ LiveOk (perN cl) len f ∧ 0 < cntF f (perN cl))) : ¬ rightP pg ps cl len f := fun hp => by
  rcases hp.2 with ⟨h1, _⟩ | ⟨_, h1⟩
  · exact hc h1
  · exact h h1
theorem pagesL_bd (cl : Int) : 0 ≤ pagesL cl ∧ pagesL cl ≤ 4 := by
  by_cases h : sizeL cl = 0
  · rw [pagesL_zero cl h]; omega
  · have := cls_facts cl h; omega
set_option maxHeartbeats 4000000 in
theorem right_calls (pg ps cl : Int) (A : Option Addr) (len cap : Nat) (f : Nat → Bool) (w : World) (h1 : I64 pg) (h2 : I64 ps) (h3 : I64 cl) (h : WordsAt w A len f) :
    Calls Tryz.prog 23 #[spV pg ps cl A len cap] w (RightR pg ps cl len f w) := by
  have HW := Lib.hid (h.alloc (.cells #[.int .i64 pg, .int .i64 ps, .int .i64 cl, .slice A len cap] 27))
  have HB := Lib.hid ((Below.refl w.heap.size w).alloc (Nat.le_refl _) (.cells #[.int .i64 pg, .int .i64 ps, .int .i64 cl, .slice A len cap] 27))
  have H1 := Lib.hid h1
  have H2 := Lib.hid h2
  have H3 := Lib.hid h3
  have hl := h.2.2
  unfold spV
  clear h
  by_cases hp : placedB pg ps = true
  · have HP := Lib.hid hp
    have hpd : 1 ≤ pg ∧ 1 ≤ ps ∧ ps ≤ 4096 ∧ pg ≤ 4096 - ps := of_decide_eq_true hp
    clear hp
    by_cases hc : cl = 255
    · subst hc
      by_cases h3p : 3 ≤ ps
      · have HQ := Lib.hid (HW.out.alloc (.cells #[.int .u64 1] 64))
        have HO := Lib.hid (RdAt.of_blk (n := 1) (Blk.new (w.alloc (.cells #[.int .i64 pg, .int .i64 ps, .int .i64 255, .slice A len cap] 27)) #[.int .u64 1] 64))
        have HB2 := Lib.hid (HB.out.alloc (by simp) (.cells #[.int .u64 1] 64))
        have hsz : (w.alloc (.cells #[.int .i64 pg, .int .i64 ps, .int .i64 255, .slice A len cap] 27)).heap.size = w.heap.size + 1 := by simp
        rw [hsz] at HO
        clear hsz
        go_enter Tryz.func23, Tryz.ntmps23
        go_wp2_with fail
        refine (placed_calls pg ps _ H1.out H2.out).mono ?_
        rintro e w1 ⟨rfl, rfl⟩
        rw [HP.out]
        go_wp2_with fail
        refine (eq1_calls _ A _ len cap f HQ.out HO.out).mono ?_
        rintro e w1 ⟨rfl, hb⟩
        have HB3 := Lib.hid (bel_next HB2.out hb (by simp))
        clear hb
        cases he : eq1B len f
        · have HE := Lib.hid he
          clear he
          go_wp2
          go_ret
          exact rr_false rfl (not_big (fun h => by have h2 := h.2; rw [HE.out] at h2; cases h2)) HB3.out
        · have HE := Lib.hid he
          clear he
          go_wp2
          go_ret
          exact rr_true rfl ⟨HP.out, .inl ⟨rfl, h3p, HE.out⟩⟩ HB3.out
      · have h3p' : ps < 3 := by omega
        clear h3p
        go_enter Tryz.func23, Tryz.ntmps23
        go_wp2_with fail
        refine (placed_calls pg ps _ H1.out H2.out).mono ?_
        rintro e w1 ⟨rfl, rfl⟩
        rw [HP.out]
        go_wp2
        go_ret
        exact rr_false rfl (not_big (fun h => by omega)) HB.out
    · have hcb : (cl == 255) = false := by simpa using hc
      have HCn := Lib.hid hc
      have hpb := pagesL_bd cl
      clear hc
      by_cases hs : sizeL cl = 0
      · have HS := Lib.hid hs
        have hsb : (sizeL cl == 0) = true := by simpa using hs
        clear hs
        go_enter Tryz.func23, Tryz.ntmps23
        go_wp2_with fail
        refine (placed_calls pg ps _ H1.out H2.out).mono ?_
        rintro e w1 ⟨rfl, rfl⟩
        rw [HP.out]
        go_wp2_with fail
        go_quiet (first | (go_at_call 45; exact Calls.quiet_of_same ((size_calls cl _ H3.out.1 H3.out.2).mono fun e w' ⟨he, hw⟩ => ⟨he, hw.symm⟩)) | (go_at_call 28; exact Calls.quiet_of_same ((pages_calls cl _ H3.out.1 H3.out.2).mono fun e w' ⟨he, hw⟩ => ⟨he, hw.symm⟩)))
        go_wp2
        go_ret
        exact rr_false rfl (not_cls HCn.out (fun h => h.1 HS.out)) (below_drewN HB.out _)
      · have HS := Lib.hid hs
        have hsb : (sizeL cl == 0) = false := by simpa using hs
        clear hs
        by_cases hpg : pagesL cl = ps
        · have hpb2 : (pagesL cl != ps) = false := by simpa using hpg
          have HPg := Lib.hid hpg
          clear hpg
          go_enter Tryz.func23, Tryz.ntmps23
          go_wp2_with fail
          refine (placed_calls pg ps _ H1.out H2.out).mono ?_
          rintro e w1 ⟨rfl, rfl⟩
          rw [HP.out]
          go_wp2_with fail
          go_quiet (first | (go_at_call 45; exact Calls.quiet_of_same ((size_calls cl _ H3.out.1 H3.out.2).mono fun e w' ⟨he, hw⟩ => ⟨he, hw.symm⟩)) | (go_at_call 28; exact Calls.quiet_of_same ((pages_calls cl _ H3.out.1 H3.out.2).mono fun e w' ⟨he, hw⟩ => ⟨he, hw.symm⟩)))
          go_wp2_with fail
          refine (row_calls pg ps cl A len cap f _ H1.out H2.out H3.out (HW.out.below (below_drewN (Below.refl _ _) _))).mono ?_
          rintro e w2 ⟨hb, ⟨rfl, hno⟩ | ⟨r, a, c, rfl, hok, hr, g1, g2, g3⟩⟩
          · have HB2 := Lib.hid (bel_next (below_drewN HB.out nq) hb (by simp))
            have HN := Lib.hid hno
            clear hb hno
            go_wp2
            go_ret
            exact rr_false rfl (not_cls HCn.out (fun h => HN.out h.2.2.1)) HB2.out
          · have HB2 := Lib.hid (bel_next (below_drewN HB.out nq) hb (by simp))
            have HN := Lib.hid hok
            have HR := Lib.hid hr
            clear hb hok hr
            go_wp2_with fail
            refine (count_row _ r a c (perN cl) f _ HR.out).mono ?_
            rintro e w3 ⟨rfl, rfl⟩
            by_cases hk : 0 < cntF f (perN cl)
            · have HK := Lib.hid hk
              generalize cntF f (perN cl) = k at hk ⊢
              go_wp2
              go_ret
              exact rr_true rfl ⟨HP.out, .inr ⟨HCn.out, HS.out, HPg.out, HN.out, HK.out⟩⟩ HB2.out
            · have HK := Lib.hid hk
              have hk0 : cntF f (perN cl) = 0 := by omega
              rw [hk0]
              clear hk hk0
              go_wp2
              go_ret
              exact rr_false rfl (not_cls HCn.out (fun h => HK.out h.2.2.2)) HB2.out
        · have hpb2 : (pagesL cl != ps) = true := by simpa using hpg
          have HPg := Lib.hid hpg
          clear hpg
          go_enter Tryz.func23, Tryz.ntmps23
          go_wp2_with fail
          refine (placed_calls pg ps _ H1.out H2.out).mono ?_
          rintro e w1 ⟨rfl, rfl⟩
          rw [HP.out]
          go_wp2_with fail
          go_quiet (first | (go_at_call 45; exact Calls.quiet_of_same ((size_calls cl _ H3.out.1 H3.out.2).mono fun e w' ⟨he, hw⟩ => ⟨he, hw.symm⟩)) | (go_at_call 28; exact Calls.quiet_of_same ((pages_calls cl _ H3.out.1 H3.out.2).mono fun e w' ⟨he, hw⟩ => ⟨he, hw.symm⟩)))
          go_wp2
          go_ret
          exact rr_false rfl (not_cls HCn.out (fun h => HPg.out h.2.1)) (below_drewN HB.out _)
  · have HP := Lib.hid (show placedB pg ps = false by simpa using hp)
    clear hp
    go_enter Tryz.func23, Tryz.ntmps23
    go_wp2_with fail
    refine (placed_calls pg ps _ H1.out H2.out).mono ?_
    rintro e w1 ⟨rfl, rfl⟩
    rw [HP.out]
    go_wp2
    go_ret
    exact rr_false rfl (not_placed HP.out) HB.out
end Go.Proofs.YtadbbknllakpcaaGreat
