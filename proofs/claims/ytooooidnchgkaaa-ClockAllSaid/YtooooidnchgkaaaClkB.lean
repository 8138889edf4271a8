/- The walk of ClockAll over the contracts. -/
import Derived.Test.YtooooidnchgkaaaClkA
namespace Go.Proofs.Ytooooidnchgkaaa
open Go.RowKit
set_option linter.unusedVariables false

theorem mem_take_succ (l : List Int) (y : Nat) (hy : y < l.length) (x : Int) : decide (x ∈ l.take (y + 1)) = (decide (x ∈ l.take y) || (l[y]?.getD 0 == x)) := by
  rw [List.take_succ_eq_append_getElem hy]
  have e : l[y]?.getD 0 = l[y] := by simp [hy]
  rw [e]
  generalize l[y] = z
  generalize l.take y = A
  by_cases h1 : x ∈ A
  · simp [h1]
  · by_cases h2 : x = z
    · subst h2; simp
    · have h3 : (z == x) = false := by simp; exact fun e => h2 e.symm
      simp [h1, h2, h3]
theorem falses_init (k : Nat) : falses (fun _ => false) k = k := by
  induction k with
  | zero => rfl
  | succ k ih => simp only [falses]; rw [ih]; rfl

set_option maxHeartbeats 4000000 in
theorem all_walk (n : Int) (a1 : Option Addr) (len1 cap1 : Nat) (z1 : List Int) (a2 : Option Addr) (len2 cap2 : Nat) (z2 : List Int) (w : World) (wn : (Lit.int .i64 n).wf = true) (r1 : IsRow .i64 w a1 len1 cap1 z1) (r2 : IsRow .i64 w a2 len2 cap2 z2) :
    Calls Try.prog 5 #[.int .i64 n, .slice a1 len1 cap1, .slice a2 len2 cap2] w fun e w' => e = .returned (.bool true) ∧ Below w.heap.size w w' := by
  have i1 := IntsAt.of_row r1
  have i2 := IntsAt.of_row r2
  have m1 : len1 ≤ 9223372036854775807 := by rcases r1 with ⟨_, rfl, _⟩ | ⟨_, _, h1, h2, _⟩; omega; unfold maxLen at h2; omega
  have m2 : len2 ≤ 9223372036854775807 := by rcases r2 with ⟨_, rfl, _⟩ | ⟨_, _, h1, h2, _⟩; omega; unfold maxLen at h2; omega
  generalize z1.take len1 = t1 at i1
  generalize z2.take len2 = t2 at i2
  have I1 := Lib.hid i1
  have I2 := Lib.hid i2
  clear r1 r2 i1 i2
  obtain ⟨b0, b1, b2, b3⟩ := rem30 n 30 (by omega) (by omega)
  obtain ⟨k, hk⟩ : ∃ k : Nat, 1 + n.tmod 30 % 30 = k := ⟨(1 + n.tmod 30 % 30).toNat, by omega⟩
  have hk2 : 1 ≤ k ∧ k ≤ 30 := by omega
  have HK := Lib.hid hk
  clear wn hk
  by_cases c1 : 60 < len1 ∨ 60 < len2
  · rcases c1 with c1 | c1
    · go_enter Try.func5, Try.ntmps5
      go_wp2_with fail
      refine (awake_calls21 _).mono ?_
      rintro e w1 ⟨rfl, hb1⟩
      go_wp2_with fail
      refine (awake_calls21 _).mono ?_
      rintro e w2 ⟨rfl, hb2⟩
      go_wp2
      go_ret
      exact ⟨rfl, bel_next hb1 hb2 (Nat.le_refl _)⟩
    · by_cases c2 : 60 < len1
      · go_enter Try.func5, Try.ntmps5
        go_wp2_with fail
        refine (awake_calls21 _).mono ?_
        rintro e w1 ⟨rfl, hb1⟩
        go_wp2_with fail
        refine (awake_calls21 _).mono ?_
        rintro e w2 ⟨rfl, hb2⟩
        go_wp2
        go_ret
        exact ⟨rfl, bel_next hb1 hb2 (Nat.le_refl _)⟩
      · go_enter Try.func5, Try.ntmps5
        go_wp2_with fail
        refine (awake_calls21 _).mono ?_
        rintro e w1 ⟨rfl, hb1⟩
        go_wp2_with fail
        refine (awake_calls21 _).mono ?_
        rintro e w2 ⟨rfl, hb2⟩
        go_wp2
        go_ret
        exact ⟨rfl, bel_next hb1 hb2 (Nat.le_refl _)⟩
  · have c2 : len1 ≤ 60 ∧ len2 ≤ 60 := by omega
    obtain ⟨c2, c3⟩ := c2
    clear c1 m1 m2
    go_enter Try.func5, Try.ntmps5
    go_wp2_with fail
    refine (awake_calls21 _).mono ?_
    rintro e w1 ⟨rfl, hb1⟩
    have HB1 := Lib.hid hb1
    clear hb1
    go_wp2_with fail
    rw [HK.out]
    refine (new_yes _ k (by omega) (by omega)).mono ?_
    rintro e w2 ⟨p, m, rfl, hc, hp, hm, hb2⟩
    rw [fnL_rep] at hc
    have HC := Lib.hid hc
    have HB := Lib.hid (bel_next HB1.out hb2 (Nat.le_refl _))
    have hwp : w.heap.size ≤ p ∧ w.heap.size ≤ m := by have := HB1.out.size; omega
    clear hc hb2 hp hm b0 b1
    go_wp2_with fail
    go_loopg [10] k (fun g i wr => ∃ j : Nat, g + j = k ∧ i = .int .i64 j ∧ ClkAt wr p m (fnL k (fun x => if x < j then 1 else 0)) 0 ∧ Below w.heap.size w wr)
    case atStart => exact ⟨0, by omega, rfl, HC.out, HB.out⟩
    case round =>
      obtain ⟨j, hj, rfl, hcr, hbr⟩ := hrel
      by_cases hlt : j < k
      · have HCr := Lib.hid hcr
        have HBr := Lib.hid hbr
        clear hcr hbr
        go_wp2_with fail
        refine (add_calls _ p m _ _ _ HCr.out).mono ?_
        rintro e w3 ⟨rfl, hc, ho⟩
        rw [setL_fnL k _ j 1 hlt] at hc
        have hf : fnL k (fun i => if i = j then 1 else if i < j then 1 else 0) = fnL k (fun i => if i < j + 1 then 1 else 0) := fnL_congr (fun i hi => by
          by_cases h1 : i = j
          · subst h1; simp
          · by_cases h2 : i < j
            · simp [h2, show i < j + 1 by omega]
            · simp [h1, h2, show ¬ i < j + 1 by omega])
        rw [hf] at hc
        have HC3 := Lib.hid hc
        have HB3 := Lib.hid (bel_only HBr.out ho (Nat.le_refl _) (fun i => ClkS_lt hwp.1 hwp.2))
        clear hc ho hf
        go_wp2
        go_roundg (gk - 1)
        case measure => omega
        case rel => exact ⟨j + 1, by omega, by go_num, HC3.out, HB3.out⟩
      · obtain rfl : j = k := by omega
        have hones : fnL j (fun x => if x < j then 1 else 0) = fnL j (fun _ => 1) := fnL_congr (fun i hi => by simp [hi])
        rw [hones] at hcr
        have HCr := Lib.hid hcr
        have HBr := Lib.hid hbr
        clear hcr hbr hones
        go_wp2_with fail
        go_loopg [11] len1 (fun g i wr => ∃ (t : Nat) (ms : List Int), g + t = len1 ∧ i = .int .i64 t ∧ ms.length = j ∧ InUse ms ∧ ClkAt wr p m ms 0 ∧ Below w.heap.size w wr)
        case atStart => exact ⟨0, _, by omega, rfl, fnL_length _ _, inUse_ones _, HCr.out, HBr.out⟩
        case round =>
          obtain ⟨t, ms, ht, rfl, hml, hiu, hcr, hbr⟩ := hrel
          have HML := Lib.hid hml
          have HIU := Lib.hid hiu
          have HCr := Lib.hid hcr
          have HBr := Lib.hid hbr
          clear hml hiu hcr hbr
          by_cases hlt2 : t < len1
          · obtain ⟨b, o, ha, hb, hcell⟩ := (I1.out).2.2.resolve_left (by omega)
            have hat := I1.out.at t
            have hc0 := (HBr.out.cell (p := ⟨b, o + t, none⟩) hb).trans (hcell t hlt2)
            generalize t1[t]?.getD 0 = y at *
            clear hcell hb
            subst ha
            go_wp2_with fail
            refine (touch_calls _ p m _ _ _ HCr.out).mono ?_
            rintro e w3 ⟨rfl, hc, ho⟩
            have HC3 := Lib.hid hc
            have HB3 := Lib.hid (bel_only HBr.out ho (Nat.le_refl _) (fun i => ClkS_lt hwp.1 hwp.2))
            clear hc ho
            go_wp2
            go_roundg (gk - 1)
            case measure => omega
            case rel => exact ⟨t + 1, _, by omega, by go_num, by rw [touchL_length]; exact HML.out, HIU.out.touch _, HC3.out, HB3.out⟩
          · obtain rfl : t = len1 := by omega
            go_wp2_with fail
            generalize hW0 : wr.alloc (.cells #[.bool false, .bool false, .bool false, .bool false, .bool false, .bool false, .bool false, .bool false, .bool false, .bool false, .bool false, .bool false, .bool false, .bool false, .bool false, .bool false, .bool false, .bool false, .bool false, .bool false, .bool false, .bool false, .bool false, .bool false, .bool false, .bool false, .bool false, .bool false, .bool false, .bool false] 32) = W0
            have hg0 : Blk W0 wr.heap.size (fnV 30 (fun _ => .bool false)) 32 := by
              rw [← hW0]; exact Blk.new wr #[.bool false, .bool false, .bool false, .bool false, .bool false, .bool false, .bool false, .bool false, .bool false, .bool false, .bool false, .bool false, .bool false, .bool false, .bool false, .bool false, .bool false, .bool false, .bool false, .bool false, .bool false, .bool false, .bool false, .bool false, .bool false, .bool false, .bool false, .bool false, .bool false, .bool false] 32
            have hc0 : ClkAt W0 p m ms 0 := by
              rw [← hW0]
              exact HCr.out.below ((Below.refl _ _).alloc (Nat.le_refl _) _)
            have hb0 : Below w.heap.size w W0 := by rw [← hW0]; exact HBr.out.alloc HBr.out.size _
            have hgw : w.heap.size ≤ wr.heap.size ∧ p < wr.heap.size ∧ m < wr.heap.size := ⟨HBr.out.size, HCr.out.2.2.2.2.1.lt, HCr.out.2.2.2.2.2.lt⟩
            clear hW0
            generalize wr.heap.size = g at *
            have HG0 := Lib.hid hg0
            have HC0 := Lib.hid hc0
            have HB0 := Lib.hid hb0
            clear hg0 hc0 hb0 HCr HBr wr
            go_loopg [13, 14] j (fun q l i wv => ∃ (x : Nat), q + x = j ∧ i = .int .i64 x ∧ l = .int .i64 (falses (fun y => decide (y < x) && decide ((y : Int) ∈ t2)) j) ∧ Blk wv g (fnV 30 (fun y => .bool (decide (y < x) && decide ((y : Int) ∈ t2)))) 32 ∧ ClkAt wv p m ms 0 ∧ Below w.heap.size w wv)
            case atStart =>
              refine ⟨0, by omega, rfl, ?_, by simpa using HG0.out, HC0.out, HB0.out⟩
              have : falses (fun y => decide (y < 0) && decide ((y : Int) ∈ t2)) j = j := by
                rw [falses_congr (g := fun _ => false) j (fun i _ => by simp)]; exact falses_init j
              rw [this]
            case round =>
              obtain ⟨x, hx, rfl, rfl, hgr, hcr, hbr⟩ := hrel
              have HGx := Lib.hid hgr
              have HCx := Lib.hid hcr
              have HBx := Lib.hid hbr
              have hfl := falses_le (fun y => decide (y < x) && decide ((y : Int) ∈ t2)) j
              generalize hfn : falses (fun y => decide (y < x) && decide ((y : Int) ∈ t2)) j = fn at *
              have HFN := Lib.hid hfn
              clear hgr hcr hbr hfn
              by_cases hxj : x < j
              · go_wp2_with fail
                go_loop [15, 16] (fun b c => ∃ y : Nat, y ≤ len2 ∧ c = .int .i64 y ∧ b = .bool (decide ((x : Int) ∈ t2.take y))) (fun _ c => len2 - (intOf c).toNat)
                case atStart => exact ⟨0, Nat.zero_le _, rfl, by simp⟩
                case round =>
                  obtain ⟨y, hy, rfl, rfl⟩ := hrel
                  by_cases hyl : y < len2
                  · obtain ⟨b, o, ha, hb, hcell⟩ := (I2.out).2.2.resolve_left (by omega)
                    have hat := I2.out.at y
                    have hc0 := (HBx.out.cell (p := ⟨b, o + y, none⟩) hb).trans (hcell y hyl)
                    have hts := Lib.hid (mem_take_succ t2 y (by have := I2.out.1; omega) (x : Int))
                    generalize t2[y]?.getD 0 = z at *
                    generalize hd : decide ((x : Int) ∈ t2.take y) = d at *
                    clear hcell hb hd
                    subst ha
                    cases d
                    · go_wp2
                      exact ⟨⟨y + 1, by omega, by go_num, by rw [hts.out]; rfl⟩, by simp [intOf]; omega⟩
                    · go_wp2
                      exact ⟨⟨y + 1, by omega, by go_num, by rw [hts.out]; rfl⟩, by simp [intOf]; omega⟩
                  · obtain rfl : len2 = y := by omega
                    have htk : t2.take len2 = t2 := List.take_of_length_le (by have := I2.out.1; omega)
                    rw [htk]
                    clear htk
                    cases hd : decide ((x : Int) ∈ t2)
                    · have HD := Lib.hid hd
                      clear hd
                      have he : ∀ y : Nat, (decide (y < x) && decide ((y : Int) ∈ t2)) = (decide (y < x + 1) && decide ((y : Int) ∈ t2)) := fun y => by
                        by_cases h1 : y = x
                        · subst h1; rw [HD.out]; simp
                        · have : decide (y < x) = decide (y < x + 1) := by rw [decide_eq_decide]; omega
                          rw [this]
                      have HE := Lib.hid he
                      clear he
                      go_wp2
                      go_roundg (gk - 1)
                      case measure => omega
                      case rel =>
                        refine ⟨x + 1, by omega, by go_num, ?_, ?_, HCx.out, HBx.out⟩
                        · rw [← HFN.out, falses_congr j (fun i _ => HE.out i)]
                        · have e : (fun y : Nat => Value.bool (decide (y < x) && decide ((y : Int) ∈ t2))) = (fun y : Nat => Value.bool (decide (y < x + 1) && decide ((y : Int) ∈ t2))) := funext fun y => by rw [HE.out y]
                          rw [← e]; exact HGx.out
                    · have HD := Lib.hid hd
                      clear hd
                      have hcg := HGx.out.cell x
                      rw [fnV_at 30 _ x (by omega)] at hcg
                      have hfg := HGx.out.free x
                      have he : ∀ y : Nat, (if y = x then true else (decide (y < x) && decide ((y : Int) ∈ t2))) = (decide (y < x + 1) && decide ((y : Int) ∈ t2)) := fun y => by
                        by_cases h1 : y = x
                        · subst h1; rw [if_pos rfl, HD.out]; simp
                        · have : decide (y < x) = decide (y < x + 1) := by rw [decide_eq_decide]; omega
                          rw [if_neg h1, this]
                      have HE := Lib.hid he
                      have hdec := falses_set (fun y => decide (y < x) && decide ((y : Int) ∈ t2)) x (by simp) j hxj
                      rw [HFN.out, falses_congr j (fun i _ => HE.out i)] at hdec
                      have HDec := Lib.hid hdec
                      have hfn1 : 1 ≤ fn := by omega
                      clear he hdec
                      go_wp2
                      go_roundg (gk - 1)
                      case measure => omega
                      case rel =>
                        refine ⟨x + 1, by omega, by go_num, ?_, ?_, HCx.out.only ((Only.refl (fun i => i = g) _).set (fun _ => rfl) _) (by have := hgw.2.1; show ¬ p = g; omega) (by have := hgw.2.2; show ¬ m = g; omega), HBx.out.setCell hgw.1 _⟩
                        · have := HDec.out
                          go_num
                        · have := HGx.out.set x (.bool true)
                          rw [fnV_set] at this
                          have e : (fun y : Nat => if y = x then Value.bool true else Value.bool (decide (y < x) && decide ((y : Int) ∈ t2))) = (fun y : Nat => Value.bool (decide (y < x + 1) && decide ((y : Int) ∈ t2))) := funext fun y => by
                            rw [← HE.out y]; split <;> rfl
                          rw [e] at this
                          exact this
              · obtain rfl : x = j := by omega
                go_wp2_with fail
                have hgone : Gone ms t2 (fun y => decide (y < x) && decide ((y : Int) ∈ t2)) := fun y hy => by
                  rw [HML.out] at hy
                  have h1 := gone_start (held := t2) HIU.out y (by rw [HML.out]; exact hy)
                  have h2 : decide (y < x) = true := decide_eq_true hy
                  show ((decide (y < x) && decide ((y : Int) ∈ t2)) = false) ↔ _
                  rw [h2, Bool.true_and]
                  exact h1
                have HGo := Lib.hid hgone
                clear hgone
                go_loopg [13] (fn + 1) (fun q l wv => ∃ (ms : List Int) (h : Nat) (f : Nat → Bool), falses f x + 1 = q ∧ l = .int .i64 ((falses f x : Nat) : Int) ∧ ms.length = x ∧ Gone ms t2 f ∧ Blk wv g (fnV 30 (fun y => .bool (f y))) 32 ∧ ClkAt wv p m ms h ∧ Below w.heap.size w wv)
                case atStart => exact ⟨ms, 0, _, by rw [HFN.out], by rw [HFN.out], HML.out, HGo.out, HGx.out, HCx.out, HBx.out⟩
                case round =>
                  obtain ⟨ms2, h2, f, hq, rfl, hml2, hgo2, hgr2, hcr2, hbr2⟩ := hrel
                  have hfle := falses_le f x
                  have HML2 := Lib.hid hml2
                  have HGo2 := Lib.hid hgo2
                  have HGr2 := Lib.hid hgr2
                  have HCr2 := Lib.hid hcr2
                  have HBr2 := Lib.hid hbr2
                  have HI2 := Lib.hid (show IntsAt wr a2 len2 t2 from I2.out.below hbr2)
                  have hgs : g < wr.heap.size := hgr2.lt
                  clear hml2 hgo2 hgr2 hcr2 hbr2
                  generalize hF : falses f x = F at *
                  have HF := Lib.hid hF
                  clear hF
                  by_cases h0 : 0 < F
                  · go_wp2_with fail
                    refine (victim_calls _ p m _ _ _ _ _ _ HCr2.out HI2.out (by omega)).mono ?_
                    rintro e w5 ⟨ms', h', v, rfl, hv, hc, ho⟩
                    obtain ⟨i, rfl, hi1, hi2, hi3, hi4⟩ := vicR_all hv HCr2.out.2.2.1 HGo2.out (by rw [HML2.out, HF.out]; exact h0)
                    rw [HML2.out] at hi1 hi4
                    have hg5 : Blk w5 g (fnV 30 (fun y => .bool (f y))) 32 := HGr2.out.only ho (by intro h; rcases h with h | h; have := hgw.2.1; omega; have := hgw.2.2; omega)
                    have hcg := hg5.cell i
                    rw [fnV_at 30 _ i (by omega), hi2] at hcg
                    have hfg := hg5.free i
                    have HC5 := Lib.hid (hc.only ((Only.refl (fun i => i = g) _).set (p := ⟨g, i, none⟩) (fun _ => rfl) (.bool true)) (by have := hgw.2.1; show ¬ p = g; omega) (by have := hgw.2.2; show ¬ m = g; omega))
                    have HB5 := Lib.hid ((bel_only HBr2.out ho (Nat.le_refl _) (fun i => ClkS_lt hwp.1 hwp.2)).setCell (p := ⟨g, i, none⟩) hgw.1 (.bool true))
                    have hset := hg5.set i (.bool true)
                    rw [fnV_set] at hset
                    have HG5 := Lib.hid hset
                    have hdec := falses_set f i hi2 x hi1
                    rw [HF.out] at hdec
                    have HDec := Lib.hid hdec
                    have HI4 := Lib.hid hi4
                    have HI3 := Lib.hid hi3
                    clear hv hc ho hset hg5 hdec hi2 hi3 hi4
                    go_wp2_with fail
                    refine (remove_calls _ p m _ _ _ HC5.out).mono ?_
                    rintro e w6 ⟨rfl, hc, ho⟩
                    have HC6 := Lib.hid hc
                    have HB6 := Lib.hid (bel_only HB5.out ho (Nat.le_refl _) (fun i => ClkS_lt hwp.1 hwp.2))
                    have HG6 := Lib.hid (HG5.out.only ho (by intro h; rcases h with h | h; have := hgw.2.1; omega; have := hgw.2.2; omega))
                    clear hc ho
                    go_wp2
                    go_roundg (gk - 1)
                    case measure => omega
                    case rel =>
                      refine ⟨_, _, fun y => if y = i then true else f y, ?_, ?_, by rw [setL_length]; exact HI4.out, HI3.out, ?_, HC6.out, HB6.out⟩
                      · have := HDec.out; omega
                      · have := HDec.out; go_num
                      · have e : (fun y : Nat => if y = i then Value.bool true else Value.bool (f y)) = (fun y : Nat => Value.bool (if y = i then true else f y)) := funext fun y => by split <;> rfl
                        have := HG6.out
                        rw [e] at this
                        exact this
                  · obtain rfl : F = 0 := by omega
                    go_wp2_with fail
                    refine (victim_calls _ p m _ _ _ _ _ _ HCr2.out HI2.out (by omega)).mono ?_
                    rintro e w5 ⟨ms', h', v, rfl, hv, hc, ho⟩
                    obtain rfl := vicR_none hv HGo2.out (by rw [HML2.out, HF.out])
                    have HB5 := Lib.hid (bel_only HBr2.out ho (Nat.le_refl _) (fun i => ClkS_lt hwp.1 hwp.2))
                    clear hc ho hv
                    go_wp2
                    go_ret
                    exact ⟨rfl, HB5.out⟩
end Go.Proofs.Ytooooidnchgkaaa
