/- The walks of slices.Contains at []int, Has at any number, and Give. -/
import Derived.Test.YtajfigihliafeaaSlFew1
namespace Go.Proofs.Ytajfigihliafeaa
open Go.RowKit
set_option linter.unusedVariables false

/-- Is a bit set? -/
def hasB (n : Nat) (f : Nat → Bool) (z : Int) : Bool := decide (0 ≤ z ∧ z < n) && f z.toNat
theorem hasB_nat (n : Nat) (f : Nat → Bool) (x : Nat) (h : x < n) : hasB n f (x : Int) = f x := by unfold hasB; rw [decide_eq_true (by omega)]; simp
theorem hasB_out (n : Nat) (f : Nat → Bool) (z : Int) (h : ¬ (0 ≤ z ∧ z < n)) : hasB n f z = false := by unfold hasB; rw [decide_eq_false h]; rfl
theorem has_any (w : World) (r a c n : Nat) (f g : Nat → Bool) (z : Int) (h : RowMid w r a c n f g) :
    Calls Try.prog 26 #[.pointer (some ⟨r, 0, none⟩), .int .i64 z] w fun e w' => e = .returned (.bool (hasB n f z)) ∧ w = w' := by
  by_cases hz : 0 ≤ z ∧ z < n
  · obtain ⟨x, rfl⟩ := Int.eq_ofNat_of_zero_le hz.1
    rw [hasB_nat n f x (by omega)]
    exact has_yes w r a c n f g x h (by omega)
  · rw [hasB_out n f z hz]
    have c0 := h.2.2.2.1.cell 0
    simp only [List.getElem?_cons_zero] at c0
    clear h
    by_cases h0 : z < 0
    · go_enter Try.func26, Try.ntmps26
      go_wp2
      go_ret
      exact ⟨rfl, rfl⟩
    · have h1 : (n : Int) ≤ z := by omega
      have h2 : 0 ≤ z := by omega
      clear hz
      go_enter Try.func26, Try.ntmps26
      go_wp2
      go_ret
      exact ⟨rfl, rfl⟩

/-- Is a number in a list? -/
def memB (zs : List Int) (v : Int) : Bool := zs.any fun z => v == z
theorem memB_iff (zs : List Int) (v : Int) : memB zs v = true ↔ v ∈ zs := by
  unfold memB
  rw [List.any_eq_true]
  exact ⟨fun ⟨z, h1, h2⟩ => by rw [beq_iff_eq] at h2; rw [h2]; exact h1, fun h => ⟨v, h, by simp⟩⟩
def IdxR (zs : List Int) (v : Int) (w : World) (e : Ending) (w' : World) : Prop := ∃ x : Int, e = .returned (.int .i64 x) ∧ (memB zs v = decide (0 ≤ x)) ∧ -1 ≤ x ∧ w = w'
set_option maxHeartbeats 1000000 in
theorem index_calls (w : World) (A : Option Addr) (len cap : Nat) (zs : List Int) (v : Int) (h : IntsAt w A len zs) (hl : len ≤ 9223372036854775807) :
    Calls Try.prog 35 #[.slice A len cap, .int .i64 v] w (IdxR zs v w) := by
  have HZ := Lib.hid h
  clear h
  go_enter Try.func35, Try.ntmps35
  go_wp2_with fail
  go_loopg [8] len (fun q i wr => ∃ j : Nat, q + j = len ∧ i = .int .i64 j ∧ Hid (memB (zs.take j) v = false) ∧ w = wr)
  case atStart => exact ⟨0, by omega, rfl, Lib.hid (by simp [memB]), rfl⟩
  case round =>
    obtain ⟨j, hj, rfl, hm, rfl⟩ := hrel
    by_cases hlt : j < len
    · obtain ⟨b, o, rfl, hb, hc⟩ := HZ.out.2.2.resolve_left (by omega)
      have hcj := hc j hlt
      have hzl := HZ.out.1
      obtain ⟨z, hz⟩ : ∃ z, zs[j]? = some z := ⟨zs[j]'(by omega), List.getElem?_eq_getElem (by omega)⟩
      have hts : zs.take (j + 1) = zs.take j ++ [z] := by rw [List.take_add_one, hz]; rfl
      have hmem := List.mem_of_getElem? hz
      rw [hz] at hcj
      simp only [Option.getD_some] at hcj
      have HTs := Lib.hid hts
      have HMem := Lib.hid hmem
      clear hc hz hts hmem
      cases he : (v == z)
      · have HE := Lib.hid he
        go_wp2
        go_roundg (gk - 1)
        case measure => omega
        case rel => exact ⟨j + 1, by omega, by go_num, Lib.hid (by
          have h1 := hm.out
          rw [HTs.out]
          unfold memB at h1 ⊢
          rw [List.any_append, h1]
          simp [HE.out]), rfl⟩
      · have hv : v = z := by simpa using he
        have HV := Lib.hid hv
        clear hv
        go_wp2
        go_ret
        exact ⟨_, rfl, by rw [(memB_iff zs v).2 (HV.out ▸ HMem.out)]; exact (decide_eq_true (by omega)).symm, by omega, rfl⟩
    · obtain rfl : j = len := by omega
      have hm2 := hm.out
      rw [List.take_of_length_le (Nat.le_of_eq HZ.out.1)] at hm2
      have HM2 := Lib.hid hm2
      clear hm2
      go_wp2
      go_ret
      exact ⟨_, rfl, by rw [HM2.out]; rfl, by omega, rfl⟩
theorem contains_calls (w : World) (A : Option Addr) (len cap : Nat) (zs : List Int) (v : Int) (h : IntsAt w A len zs) (hl : len ≤ 9223372036854775807) :
    Calls Try.prog 30 #[.slice A len cap, .int .i64 v] w fun e w' => e = .returned (.bool (memB zs v)) ∧ w = w' := by
  have HZ := Lib.hid h
  clear h
  go_enter Try.func30, Try.ntmps30
  go_wp2_with fail
  refine (index_calls _ A len cap zs v HZ.out hl).mono ?_
  rintro e w' ⟨x, rfl, hx, hx1, rfl⟩
  have HX := Lib.hid hx
  clear hx
  go_wp2
  go_ret
  exact ⟨by rw [HX.out]; rfl, rfl⟩

/-- Are the first j of a list taken, and none of them twice? -/
def GvTo (n : Nat) (f : Nat → Bool) (zs : List Int) (j : Nat) : Prop := ∀ i z, i < j → zs[i]? = some z → hasB n f z = true ∧ memB (zs.take i) z = false
theorem GvTo.succ {n : Nat} {f : Nat → Bool} {zs : List Int} {j : Nat} {z : Int} (h : GvTo n f zs j) (hz : zs[j]? = some z) (h1 : hasB n f z = true) (h2 : memB (zs.take j) z = false) : GvTo n f zs (j + 1) := fun i y hi hy => by
  by_cases e : i = j
  · subst e; rw [hz] at hy; cases hy; exact ⟨h1, h2⟩
  · exact h i y (by omega) hy
/-- The bits of a list are cleared. -/
def clrL (f : Nat → Bool) (zs : List Int) (i : Nat) : Bool := f i && !memB zs (i : Int)
theorem clrL_nil (f : Nat → Bool) : clrL f [] = f := funext fun i => by simp [clrL, memB]
theorem clrL_snoc (f : Nat → Bool) (zs : List Int) (x : Nat) : clrL f (zs ++ [(x : Int)]) = put (clrL f zs) x false := funext fun i => by
  unfold clrL memB put
  rw [List.any_append]
  by_cases h : i = x
  · subst h; rw [if_pos rfl]; simp
  · rw [if_neg h]
    have : ((i : Int) == (x : Int)) = false := by rw [beq_eq_false_iff_ne]; omega
    simp [this]
def GiveR (w : World) (b r a c g n cap : Nat) (sp : List Value) (f : Nat → Bool) (zs : List Int) (e : Ending) (w' : World) : Prop :=
  (e = .returned (.int .i64 2) ∧ ¬ GvTo n f zs zs.length ∧ w = w') ∨ (e = .returned (.int .i64 0) ∧ GvTo n f zs zs.length ∧ BoardAt w' b r a c g n cap sp (clrL f zs) ∧ Only (BrdS r a c g) w w')

set_option maxHeartbeats 4000000 in
theorem give_calls (w : World) (b r a c g n cap : Nat) (sp : List Value) (f : Nat → Bool) (A : Option Addr) (len cp : Nat) (zs : List Int) (h : BoardAt w b r a c g n cap sp f) (hz : IntsAt w A len zs) (hl : len ≤ cp) (hcp : cp ≤ maxLen)
    (hd : ∀ b o, A = some ⟨b, o, none⟩ → 0 < len → ¬ BrdS r a c g b) :
    Calls Try.prog 13 #[.pointer (some ⟨b, 0, none⟩), .slice A len cp] w (GiveR w b r a c g n cap sp f zs) := by
  unfold maxLen at hcp
  have HM := Lib.hid h
  have HZ := Lib.hid hz
  have HD := Lib.hid hd
  have c0 := h.2.2.1.cell 0
  simp only [List.getElem?_cons_zero] at c0
  have hzl := hz.1
  clear h hz hd
  go_enter Try.func13, Try.ntmps13
  go_wp2_with fail
  go_loopg [11] len (fun q i wr => ∃ j : Nat, q + j = len ∧ i = .int .i64 j ∧ Hid (GvTo n f zs j) ∧ w = wr)
  case atStart => exact ⟨0, by omega, rfl, Lib.hid (fun i z h => by omega), rfl⟩
  case round =>
    obtain ⟨j, hj, rfl, hg, rfl⟩ := hrel
    by_cases hlt : j < len
    · obtain ⟨bb, oo, rfl, hbb, hc⟩ := HZ.out.2.2.resolve_left (by omega)
      have hcj := hc j hlt
      obtain ⟨z, hzj⟩ : ∃ z, zs[j]? = some z := ⟨zs[j]'(by omega), List.getElem?_eq_getElem (by omega)⟩
      rw [hzj] at hcj
      simp only [Option.getD_some] at hcj
      have HZj := Lib.hid hzj
      have hcut : IntsAt w (some ⟨bb, oo, none⟩) j (zs.take j) := ⟨by rw [List.length_take]; omega, fun y hy => HZ.out.2.1 y (List.mem_of_mem_take hy), by
        by_cases h0 : j = 0
        · exact .inl h0
        · refine .inr ⟨bb, oo, rfl, hbb, fun i hi => ?_⟩
          rw [hc i (by omega), List.getElem?_take_of_lt hi]⟩
      have HCut := Lib.hid hcut
      clear hc hzj hcut
      cases hb : hasB n f z
      · have HB := Lib.hid hb
        have hbad : ¬ GvTo n f zs zs.length := fun h => by
          have := (h j z (by omega) HZj.out).1
          rw [HB.out] at this; cases this
        have HBad := Lib.hid hbad
        clear hb hbad
        go_wp2_with fail
        refine (has_any _ r a c n f _ z HM.out.2.2.2.1).mono ?_
        rintro e w' ⟨rfl, rfl⟩
        rw [HB.out]
        go_wp2
        go_ret
        exact .inl ⟨rfl, HBad.out, rfl⟩
      · have HB := Lib.hid hb
        clear hb
        cases hm : memB (zs.take j) z
        · have HMm := Lib.hid hm
          have HN := Lib.hid (hg.out.succ HZj.out HB.out hm)
          clear hm
          go_wp2_with fail
          refine (has_any _ r a c n f _ z HM.out.2.2.2.1).mono ?_
          rintro e w' ⟨rfl, rfl⟩
          rw [HB.out]
          go_wp2_with fail
          refine (contains_calls _ _ j cp (zs.take j) z HCut.out (by omega)).mono ?_
          rintro e w' ⟨rfl, rfl⟩
          rw [HMm.out]
          go_wp2
          go_roundg (gk - 1)
          case measure => omega
          case rel => exact ⟨j + 1, by omega, by go_num, HN, rfl⟩
        · have HMm := Lib.hid hm
          have hbad : ¬ GvTo n f zs zs.length := fun h => by
            have := (h j z (by omega) HZj.out).2
            rw [HMm.out] at this; cases this
          have HBad := Lib.hid hbad
          clear hm hbad
          go_wp2_with fail
          refine (has_any _ r a c n f _ z HM.out.2.2.2.1).mono ?_
          rintro e w' ⟨rfl, rfl⟩
          rw [HB.out]
          go_wp2_with fail
          refine (contains_calls _ _ j cp (zs.take j) z HCut.out (by omega)).mono ?_
          rintro e w' ⟨rfl, rfl⟩
          rw [HMm.out]
          go_wp2
          go_ret
          exact .inl ⟨rfl, HBad.out, rfl⟩
    · obtain rfl : j = len := by omega
      go_wp2_with fail
      go_loopg [33] j (fun q i wr => ∃ t : Nat, q + t = j ∧ i = .int .i64 t ∧ BoardAt wr b r a c g n cap sp (clrL f (zs.take t)) ∧ Only (BrdS r a c g) w wr)
      case atStart => exact ⟨0, by omega, rfl, by rw [List.take_zero, clrL_nil]; exact HM.out, Only.refl _ _⟩
      case round =>
        obtain ⟨t, ht, rfl, hbd, ho⟩ := hrel
        have HBt := Lib.hid hbd
        have HOt := Lib.hid ho
        by_cases hlt2 : t < j
        · have hzr := HZ.out.only ho (HD.out)
          obtain ⟨bb, oo, rfl, hbb, hc⟩ := hzr.2.2.resolve_left (by omega)
          have hct := hc t hlt2
          obtain ⟨z, hzt⟩ : ∃ z, zs[t]? = some z := ⟨zs[t]'(by omega), List.getElem?_eq_getElem (by omega)⟩
          rw [hzt] at hct
          simp only [Option.getD_some] at hct
          obtain ⟨h1, h2⟩ := hg.out t z hlt2 hzt
          have hin : 0 ≤ z ∧ z < n := by
            by_cases hz : 0 ≤ z ∧ z < n
            · exact hz
            · rw [hasB_out n f z hz] at h1; cases h1
          obtain ⟨x, rfl⟩ := Int.eq_ofNat_of_zero_le hin.1
          have hxn : x < n := by omega
          rw [hasB_nat n f x hxn] at h1
          have hfx : clrL f (zs.take t) x = true := by unfold clrL; rw [h1, h2]; rfl
          have hts : clrL f (zs.take (t + 1)) = put (clrL f (zs.take t)) x false := by
            rw [List.take_add_one, hzt]; exact clrL_snoc f _ x
          have HFx := Lib.hid hfx
          have HTs := Lib.hid hts
          clear hbd ho hzr hc hzt h1 h2 hin hfx hts
          go_wp2_with fail
          refine (bturn_ok _ b r a c g n cap sp (clrL f (zs.take t)) x 1 false HBt.out (by omega) (fun i h1 h2 => by rw [show i = x by omega]; exact HFx.out)).mono ?_
          rintro e w2 ⟨rfl, hb2, ho2⟩
          rw [fillF_put] at hb2
          have HB2 := Lib.hid hb2
          have HO2 := Lib.hid (HOt.out.trans ho2 (fun _ _ h => h))
          clear hb2 ho2
          go_wp2
          go_roundg (gk - 1)
          case measure => omega
          case rel => exact ⟨t + 1, by omega, by go_num, by rw [HTs.out]; exact HB2.out, HO2.out⟩
        · obtain rfl : t = j := by omega
          have hall : GvTo n f zs zs.length := by rw [hzl]; exact hg.out
          have HAll := Lib.hid hall
          clear hbd ho hall
          go_wp2
          go_ret
          refine .inr ⟨rfl, HAll.out, ?_, HOt.out⟩
          have := HBt.out
          rw [List.take_of_length_le (Nat.le_of_eq hzl)] at this
          exact this
end Go.Proofs.Ytajfigihliafeaa
