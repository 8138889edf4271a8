/- The walk of SlotsOnce. -/
import Derived.Test.YtajfigihliafeaaBrdA
import Derived.Test.YtajfigihliafeaaNum
namespace Go.Proofs.Ytajfigihliafeaa
open Go.RowKit
set_option linter.unusedVariables false

theorem rem_mod (n c : Int) (h : 1 ≤ c) (h2 : c ≤ 1000) : 0 ≤ n.tmod c % c ∧ n.tmod c % c ≤ c - 1 ∧ -c < n.tmod c ∧ n.tmod c < c := by
  have h3 := Int.emod_nonneg (n.tmod c) (show c ≠ 0 by omega)
  have h4 := Int.emod_lt_of_pos (n.tmod c) (show 0 < c by omega)
  have h5 := Int.tmod_lt_of_pos n (show 0 < c by omega)
  have h6 : -c < n.tmod c := by
    have := Int.tmod_lt_of_pos (-n) (show 0 < c by omega)
    rw [Int.neg_tmod] at this
    omega
  omega

def seen0 : Array Value := (List.replicate 200 (Value.bool false)).toArray
theorem seen0_eq : seen0.toList = fnV 200 (fun _ => .bool false) := by unfold seen0; exact fnV_rep 200 _
theorem seen_zero : ∀ w : World, (zeroValue 28).run Try.prog w = .ok (.agg seen0) w := fun w => by kernel_rfl
/-- Which slots were seen. -/
def SeenAt (w : World) (s : Nat) (f : Nat → Bool) : Prop := Blk w s (fnV 200 fun i => .bool (f i)) 28
theorem SeenAt.put {w : World} {s : Nat} {f : Nat → Bool} (h : SeenAt w s f) (i : Nat) : SeenAt (w.setCell ⟨s, i, none⟩ (.bool true)) s (put f i true) := by
  have := Blk.set h i (.bool true)
  rw [fnV_set] at this
  have e : (fun j => if j = i then Value.bool true else Value.bool (f j)) = (fun j => Value.bool (Go.Proofs.Ytajfigihliafeaa.put f i true j)) := funext fun j => by
    unfold Go.Proofs.Ytajfigihliafeaa.put; split <;> rfl
  rw [e] at this
  exact this

theorem cntF_full (f : Nat → Bool) : ∀ m, (∀ i, i < m → f i = true) → cntF f m = m := by
  intro m
  induction m with
  | zero => intro _; rfl
  | succ m ih => intro h; simp only [cntF]; rw [ih (fun i hi => h i (by omega)), h m (by omega)]; simp
theorem cntF_all (f : Nat → Bool) : ∀ m, cntF f m = m → ∀ i, i < m → f i = true := by
  intro m
  induction m with
  | zero => intro _ i hi; omega
  | succ m ih =>
    intro h i hi
    simp only [cntF] at h
    have hle := cntF_le f m
    have hm : f m = true := by
      cases hf : f m
      · rw [hf] at h; simp at h; omega
      · rfl
    rw [hm] at h
    by_cases e : i = m
    · rw [e]; exact hm
    · exact ih (by simpa using h) i (by omega)
theorem SeenAt.only {w w' : World} {s : Nat} {f : Nat → Bool} {S : Nat → Prop} (h : SeenAt w s f) (o : Only S w w') (hS : ¬ S s) : SeenAt w' s f := Blk.only h o hS

set_option maxRecDepth 100000 in
set_option maxHeartbeats 8000000 in
theorem once_walk (n : Int) (a0 : Option Addr) (len cap0 : Nat) (zs : List Int) (w : World) (wn0 : (Lit.int .i64 n).wf = true) (hrow : IsRow .u8 w a0 len cap0 zs) :
    Calls Try.prog 3 #[.int .i64 n, .slice a0 len cap0] w fun e w' => e = .returned (.bool true) ∧ Below w.heap.size w w' := by
  have hlen := hrow.len_le
  have HAt := Lib.hid (NumAt.of_row (M := 255) hrow (fun n hn => by have := wf_u8 hn; omega))
  obtain ⟨b0, b1, b2, b3⟩ := rem_mod n 200 (by omega) (by omega)
  obtain ⟨m, hm⟩ : ∃ m : Nat, 1 + n.tmod 200 % 200 = m := ⟨(1 + n.tmod 200 % 200).toNat, by omega⟩
  have hm2 : 1 ≤ m ∧ m ≤ 200 := by omega
  have HMm := Lib.hid hm
  clear hrow wn0 hm
  by_cases hl : 20 < len
  · go_enter Try.func3, Try.ntmps3
    go_wp2_with fail
    refine (awake_calls09 _).mono ?_
    rintro e w1 ⟨rfl, hb1⟩
    go_wp2_with fail
    refine (awake_calls09 _).mono ?_
    rintro e w2 ⟨rfl, hb2⟩
    go_wp2
    go_ret
    exact ⟨rfl, bel_next hb1 hb2 (Nat.le_refl _)⟩
  · go_enter Try.func3, Try.ntmps3
    go_wp2_with fail
    refine (awake_calls09 _).mono ?_
    rintro e w1 ⟨rfl, hb1⟩
    have HB1 := Lib.hid hb1
    clear hb1
    go_wp2_with fail
    rw [HMm.out]
    refine (newb_calls _ m none 0 0 [] (by omega) (by omega) (IntsAt.nil _) (by omega)).mono ?_
    rintro e w2 ⟨hb2, ⟨rfl, hx⟩ | ⟨b, r, a, c, g, cap, sp, f, rfl, hf, hbd, h1, h2, h3, h4, h5⟩⟩
    · cases hx
    · injection hf with hf
      subst hf
      have HB2 := Lib.hid (bel_next HB1.out hb2 (Nat.le_refl _))
      have HBd := Lib.hid hbd
      have hS : w.heap.size ≤ b ∧ w.heap.size ≤ r ∧ w.heap.size ≤ a ∧ w.heap.size ≤ c ∧ w.heap.size ≤ g := by have := HB1.out.size; omega
      have hL : b < w2.heap.size ∧ r < w2.heap.size ∧ a < w2.heap.size ∧ c < w2.heap.size ∧ g < w2.heap.size := ⟨hbd.2.2.1.lt, hbd.2.2.2.1.2.2.2.1.lt, hbd.2.2.2.1.2.2.2.2.1.lt, hbd.2.2.2.1.2.2.2.2.2.lt, hbd.2.2.2.2.lt⟩
      have HS := Lib.hid hS
      have HL := Lib.hid hL
      clear hb2 hbd h1 h2 h3 h4 h5 hS hL
      have hz28 := seen_zero
      go_wp2_with fail
      clear hz28
      have hseen : SeenAt (w2.alloc (.cells seen0 28)) w2.heap.size (fun _ => false) := by
        unfold SeenAt; rw [← seen0_eq]; exact Blk.new _ _ _
      have hbd3 : BoardAt (w2.alloc (.cells seen0 28)) b r a c g m cap sp (fun _ => false) := BMid.below HBd.out ((Below.refl _ _).alloc (Nat.le_refl _) _)
      have hb3 := HB2.out.alloc HB2.out.size (.cells seen0 28)
      have HSe := Lib.hid hseen
      have HBd3 := Lib.hid hbd3
      have HB3 := Lib.hid hb3
      have HL2 := Lib.hid HB2.out.size
      clear hseen hbd3 hb3 HBd
      generalize w2.alloc (.cells seen0 28) = w3 at *
      generalize w2.heap.size = S0 at *
      go_loopg [9, 10] len (fun q tk i wr => ∃ (j : Nat) (f : Nat → Bool), q + j = len ∧ i = .int .i64 j ∧ tk = .int .i64 (cntF f m : Nat) ∧ BoardAt wr b r a c g m cap sp f ∧ SeenAt wr S0 f ∧ Below w.heap.size w wr)
      case atStart => exact ⟨0, _, by omega, rfl, by rw [cntF_none]; rfl, HBd3.out, HSe.out, HB3.out⟩
      case round =>
        obtain ⟨j, f, hj, rfl, rfl, hbd, hse, hbel⟩ := hrel
        have HBd := Lib.hid hbd
        have HSn := Lib.hid hse
        have HBel := Lib.hid hbel
        have hcl := cntF_le f m
        clear hbd hse hbel
        obtain ⟨wo, rfl⟩ : ∃ wo : World, wo = wr := ⟨_, rfl⟩
        by_cases hlt : j < len
        · obtain ⟨bb, oo, ha, hbl, hcells⟩ := (HAt.out).resolve_left (by omega)
          obtain ⟨z, hz, hc0⟩ := hcells j hlt
          have d0 := (HBel.out.cell (p := ⟨bb, oo + j, none⟩) hbl).trans hc0
          obtain ⟨K, hK⟩ : ∃ K, z % 64 + 1 = K := ⟨_, rfl⟩
          have hK2 : 1 ≤ K ∧ K ≤ 64 := by omega
          have hKi : (1 : Int) + (z : Int) % 64 = (K : Int) := by omega
          have HKi := Lib.hid hKi
          clear hcells hc0 hbl hK hKi
          subst ha
          go_wp2_with fail
          rw [HKi.out]
          refine (run_calls _ b r a c g m cap sp f K HBd.out (by omega) (by omega)).mono ?_
          rintro e w4 (⟨rfl, hno, rfl⟩ | ⟨p, rfl, hp, hb4, ho4⟩)
          · clear hno
            go_wp2
            go_roundg (gk - 1)
            case measure => omega
            case rel => exact ⟨j + 1, f, by omega, by go_num, rfl, HBd.out, HSn.out, HBel.out⟩
          · have hh := hp.hit
            have HH := Lib.hid hh.2
            have hpk := hh.1
            have HB4 := Lib.hid hb4
            have HL4 := Lib.hid (bel_only HBel.out ho4 (Nat.le_refl _) (fun i => BrdS_ge HS.out.2.1 HS.out.2.2.1 HS.out.2.2.2.1 HS.out.2.2.2.2))
            have HS4 := Lib.hid (HSn.out.only ho4 (by have := HL.out; unfold BrdS; omega))
            clear hp hh hb4 ho4
            go_wp2_with fail
            go_loopg [9, 14] K (fun q tk i wr => ∃ t : Nat, q + t = K ∧ i = .int .i64 ((p + t : Nat) : Int) ∧ tk = .int .i64 ((cntF f m + t : Nat) : Int) ∧ BoardAt wr b r a c g m cap sp (fillF f p K true) ∧ SeenAt wr S0 (fillF f p t true) ∧ Below w.heap.size w wr)
            case atStart => exact ⟨0, by omega, by go_num, by go_num, HB4.out, by rw [fillF_zero]; exact HS4.out, HL4.out⟩
            case round =>
              obtain ⟨t, ht, rfl, rfl, hbd, hse, hbel⟩ := hrel
              have HBt := Lib.hid hbd
              have HSt := Lib.hid hse
              have HLt := Lib.hid hbel
              by_cases hlt2 : t < K
              · obtain ⟨x, hx⟩ : ∃ x, p + t = x := ⟨_, rfl⟩
                have HX := Lib.hid hx
                have hxm : x < m := by omega
                have hxk : x < p + K := by omega
                have dx := hse.cell x
                rw [fnV_at _ _ _ (by omega)] at dx
                have hfx : fillF f p t true x = false := by unfold fillF; rw [if_neg (by omega)]; exact HH.out x (by omega) (by omega)
                rw [hfx] at dx
                have fx := hse.free x
                have hstep := hse.put x
                rw [← hx, fillF_succ, hx] at hstep
                have HStep := Lib.hid hstep
                have g1 : decide ((x : Int) < 0) = false := decide_eq_false (by omega)
                have g2 : decide ((m : Int) ≤ (x : Int)) = false := decide_eq_false (by omega)
                have HOn := Lib.hid (Only.set (S := fun k => k = S0) (Only.refl _ wr) (p := ⟨S0, x, none⟩) (fun _ => rfl) (.bool true))
                rw [hx]
                clear hbd hse hbel hfx hstep hx
                go_wp2
                go_roundg (gk - 1)
                case measure => omega
                case rel =>
                  have hL := HL.out
                  exact ⟨t + 1, by omega, by have := HX.out; go_num, by go_num, BMid.only HBt.out HOn.out (by omega) (by omega) (by omega) (by omega) (by omega), HStep.out, bel_only HLt.out HOn.out (Nat.le_refl _) (fun i hi => by have := HL2.out; omega)⟩
              · obtain rfl : t = K := by omega
                have hcf := cntF_fill f p m t hpk HH.out
                have HCf := Lib.hid hcf
                clear hbd hse hbel hcf
                go_wp2
                go_roundg (len - (j + 1))
                case measure => omega
                case rel => exact ⟨j + 1, _, by omega, by go_num, by rw [HCf.out], HBt.out, HSt.out, HLt.out⟩
        · obtain rfl : j = len := by omega
          go_wp2_with fail
          go_loopg [9] (m - cntF f m) (fun q tk wr => ∃ f : Nat → Bool, q + cntF f m = m ∧ tk = .int .i64 (cntF f m : Nat) ∧ BoardAt wr b r a c g m cap sp f ∧ SeenAt wr S0 f ∧ Below w.heap.size w wr)
          case atStart => exact ⟨f, by omega, rfl, HBd.out, HSn.out, HBel.out⟩
          case round =>
            clear HBd HSn HBel hcl
            obtain ⟨h, hq, rfl, hbd, hse, hbel⟩ := hrel
            have HBd := Lib.hid hbd
            have HSn := Lib.hid hse
            have HBel := Lib.hid hbel
            clear hbd hse hbel
            obtain ⟨C, hC⟩ : ∃ C, cntF h m = C := ⟨_, rfl⟩
            have HC := Lib.hid hC
            rw [hC] at hq ⊢
            clear hC
            by_cases hlt2 : C < m
            · go_wp2_with fail
              refine (take_calls _ b r a c g m cap sp h HBd.out).mono ?_
              rintro e w4 (⟨rfl, hno, rfl⟩ | ⟨x, rfl, hx, hb4, ho4⟩)
              · have := cntF_full h m (fun i hi => fr_none hno i hi)
                have := HC.out
                omega
              · have hxm := hx.1
                have hxf := Lib.hid hx.2.1
                have HB4 := Lib.hid hb4
                have HL4 := Lib.hid (bel_only HBel.out ho4 (Nat.le_refl _) (fun i => BrdS_ge HS.out.2.1 HS.out.2.2.1 HS.out.2.2.2.1 HS.out.2.2.2.2))
                have hs4 := HSn.out.only ho4 (by have := HL.out; unfold BrdS; omega)
                have HS4 := Lib.hid hs4
                have dx := hs4.cell x
                rw [fnV_at _ _ _ (by omega), hxf.out] at dx
                have fx := hs4.free x
                have HStep := Lib.hid (hs4.put x)
                have HCf := Lib.hid (cntF_set h x m hxf.out hxm)
                have g1 : decide ((x : Int) < 0) = false := decide_eq_false (by omega)
                have g2 : decide ((m : Int) ≤ (x : Int)) = false := decide_eq_false (by omega)
                have HOn := Lib.hid (Only.set (S := fun k => k = S0) (Only.refl _ w4) (p := ⟨S0, x, none⟩) (fun _ => rfl) (.bool true))
                clear hx hb4 ho4 hs4
                go_wp2
                go_roundg (gk - 1)
                case measure => omega
                case rel =>
                  have hL := HL.out
                  have h1 := HCf.out
                  have h2 := HC.out
                  exact ⟨_, by omega, by rw [h1, h2]; go_num, BMid.only HB4.out HOn.out (by omega) (by omega) (by omega) (by omega) (by omega), HStep.out, bel_only HL4.out HOn.out (Nat.le_refl _) (fun i hi => by have := HL2.out; omega)⟩
            · have hfull : ∀ i, i < m → h i = true := cntF_all h m (by have := HC.out; have := cntF_le h m; omega)
              have HF := Lib.hid hfull
              have hCm : C = m := by have := HC.out; have := cntF_le h m; omega
              have HCm := Lib.hid hCm
              clear hfull hCm
              go_wp2_with fail
              refine (take_calls _ b r a c g m cap sp h HBd.out).mono ?_
              rintro e w4 (⟨rfl, hno, rfl⟩ | ⟨x, rfl, hx, hb4, ho4⟩)
              · clear hno
                go_wp2_with fail
                refine (run_calls _ b r a c g m cap sp h 1 HBd.out (by omega) (by omega)).mono ?_
                rintro e w4 (⟨rfl, hno, rfl⟩ | ⟨p, rfl, hp, hb4, ho4⟩)
                · clear hno
                  go_wp2_with fail
                  refine (free_calls _ b r a c g m cap sp h HBd.out).mono ?_
                  rintro e w5 ⟨rfl, q, rfl⟩
                  rw [HC.out, HCm.out, Nat.sub_self]
                  go_wp2
                  go_ret
                  exact ⟨rfl, below_drewN HBel.out q⟩
                · have h1 := hp.hit
                  have := h1.2 p (by omega) (by omega)
                  rw [HF.out p (by omega)] at this
                  cases this
              · have := hx.2.1
                rw [HF.out x hx.1] at this
                cases this
end Go.Proofs.Ytajfigihliafeaa
