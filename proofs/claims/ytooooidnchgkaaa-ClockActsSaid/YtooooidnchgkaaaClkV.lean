/- The walk through (*clock.Clock).Victim. -/
import Derived.Test.YtooooidnchgkaaaClkW
import Derived.BigRegion
namespace Go.Proofs.Ytooooidnchgkaaa
open Go.RowKit
set_option linter.unusedVariables false

theorem Try.zero_bool (w : World) : (zeroValue 4).run Try.prog w = .ok (.bool false) w := by kernel_rfl

theorem elig_dec (ms held : List Int) (k : Nat) (hk : k < ms.length) : decide (Elig ms held k) = (mk ms k != 0 && !decide ((k : Int) ∈ held)) := by
  unfold Elig
  by_cases h1 : mk ms k = 0 <;> by_cases h2 : (k : Int) ∈ held <;> simp [h1, h2, hk]

/-- What Victim answers, and what becomes of the clock. -/
def VicR (held ms : List Int) (h : Nat) (ms' : List Int) (h' : Nat) (v : Int) : Prop :=
  (anyB ms held ms.length = false ∧ ms' = ms ∧ h' = h ∧ v = -1) ∨ (∃ k i, anyB ms held ms.length = true ∧ vrun held k ms h = some (ms', h', i) ∧ v = (i : Int))
theorem VicR.one {held ms : List Int} {h : Nat} {m1 m2 : List Int} {h1 h2 : Nat} {v1 v2 : Int} (a : VicR held ms h m1 h1 v1) (b : VicR held ms h m2 h2 v2) : m1 = m2 ∧ h1 = h2 ∧ v1 = v2 := by
  rcases a with ⟨a0, a1, a2, a3⟩ | ⟨k, i, a0, a1, a2⟩ <;> rcases b with ⟨b0, b1, b2, b3⟩ | ⟨k', i', b0, b1, b2⟩
  · exact ⟨a1.trans b1.symm, a2.trans b2.symm, a3.trans b3.symm⟩
  · rw [a0] at b0; cases b0
  · rw [a0] at b0; cases b0
  · have := vrun_one held k k' ms h _ _ a1 b1
    simp only [Prod.mk.injEq] at this
    exact ⟨this.1, this.2.1, by rw [a2, b2, this.2.2]⟩
theorem ClkAt.below {w w' : World} {p m : Nat} {ms : List Int} {h : Nat} (hc : ClkAt w p m ms h) (k : Below w.heap.size w w') : ClkAt w' p m ms h :=
  ⟨hc.1, hc.2.1, hc.2.2.1, hc.2.2.2.1, hc.2.2.2.2.1.below k, hc.2.2.2.2.2.below k⟩

def VicPost (w : World) (p m : Nat) (zs ms : List Int) (h : Nat) (e : Ending) (w' : World) : Prop :=
  ∃ ms' h' v, e = .returned (.int .i64 v) ∧ VicR zs ms h ms' h' v ∧ ClkAt w' p m ms' h' ∧ Only (ClkS p m) w w'

set_option maxHeartbeats 4000000 in
theorem victim_calls (w : World) (p m : Nat) (ms : List Int) (h : Nat) (a : Option Addr) (len cap : Nat) (zs : List Int) (hc : ClkAt w p m ms h) (hz : IntsAt w a len zs) (hlen : len ≤ 60) :
    Calls Try.prog 11 #[.pointer (some ⟨p, 0, none⟩), .slice a len cap] w (VicPost w p m zs ms h) := by
  have hmm := @run_makeMap Try.prog
  have HZ := Lib.hid hz
  have HCk := Lib.hid hc
  have hms := hc.2.1
  clear hz hc
  go_enter Try.func11, Try.ntmps11
  go_wp2_with fail
  go_loopw [16] (fun c wr => ∃ k : Nat, k ≤ len ∧ c = .int .i64 k ∧ SetMap Try.prog 3 4 wr w.heap.size k (zs.take k) ∧ Below w.heap.size w wr) (fun c _ => len - (intOf c).toNat)
  case atStart => exact ⟨0, Nat.zero_le _, rfl, by simpa using SetMap.made _ _ _ w, (Below.refl _ _).alloc (Nat.le_refl _) _⟩
  case round =>
    obtain ⟨k, hk, rfl, hset, hbel⟩ := hrel
    by_cases hlt : k < len
    · obtain ⟨b, o, ha, hb, hcell⟩ := (HZ.out).2.2.resolve_left (by omega)
      have hat := HZ.out.at k
      have hc0 := (hbel.cell (p := ⟨b, o + k, none⟩) hb).trans (hcell k hlt)
      have hts := Lib.hid (show zs.take (k + 1) = zs.take k ++ [zs[k]?.getD 0] by
        rw [List.take_succ_eq_append_getElem (by have := HZ.out.1; omega)]; simp [show k < zs.length by have := HZ.out.1; omega])
      generalize zs[k]?.getD 0 = y at *
      have hHB := Lib.hid hb
      clear hcell hb
      subst ha
      go_wp2_with (at_mapUpdate; refine wpList_setMap _ rfl (.tmp 20) (.tmp 21) _ 52 rfl 3 4 Try.underlying52 Try.underlying3 Try.underlying4 w.heap.size k _ y rfl rfl rfl hset (by unfold maxLen; omega) (by omega) (by omega) ?_; intro w1 hset1 hgr1)
      refine ⟨⟨k + 1, by omega, by go_num, by rw [hts.out]; exact hset1, hbel.grown hgr1 hbel.size (fun j hj => by cases hj; exact Nat.le_refl _)⟩, by simp [intOf]; omega⟩
    · obtain rfl : len = k := by omega
      have htk : zs.take len = zs := List.take_of_length_le (by have := HZ.out.1; omega)
      rw [htk] at hset
      clear htk HZ
      have hck := HCk.out.below hbel
      have c0 := hck.2.2.2.2.1.cell 0
      simp only [List.getElem?_cons_zero] at c0
      have HK := Lib.hid hck
      have HS := Lib.hid hset
      clear hck hset
      go_wp2_with fail
      go_loop [8, 28] (fun b c => ∃ j : Nat, j ≤ ms.length ∧ c = .int .i64 j ∧ b = .bool (anyB ms zs j)) (fun _ c => ms.length - (intOf c).toNat)
      case atStart => exact ⟨0, Nat.zero_le _, rfl, by rw [anyB_zero]⟩
      case round =>
        obtain ⟨j, hj, rfl, rfl⟩ := hrel
        by_cases hjl : j < ms.length
        · have cj := marks_cell HK.out.2.2.2.2.2 j hjl
          have hl := HS.out.look Try.underlying52 Try.underlying3 Try.underlying4 Try.zero_bool (j : Int) (by omega) (by omega)
          have hs := Lib.hid (anyB_succ ms zs j)
          have he := Lib.hid (elig_dec ms zs j hjl)
          generalize hv0 : anyB ms zs j = v0 at *
          generalize hv1 : mk ms j = v1 at *
          generalize hv2 : decide ((j : Int) ∈ zs) = v2 at *
          clear hv0 hv1 hv2
          by_cases hz1 : v1 = 0
          · have hz2 : (v1 != 0) = false := by simpa using hz1
            rw [hz2] at he
            clear hz1
            cases v0
            · go_wp2
              exact ⟨⟨j + 1, by omega, by go_num, by rw [hs.out, he.out]; rfl⟩, by simp [intOf]; omega⟩
            · go_wp2
              exact ⟨⟨j + 1, by omega, by go_num, by rw [hs.out]; rfl⟩, by simp [intOf]; omega⟩
          · have hz2 : (v1 != 0) = true := by simpa using hz1
            rw [hz2] at he
            clear hz1
            cases v0
            · go_wp2
              exact ⟨⟨j + 1, by omega, by go_num, by rw [hs.out, he.out]; cases v2 <;> rfl⟩, by simp [intOf]; omega⟩
            · go_wp2
              exact ⟨⟨j + 1, by omega, by go_num, by rw [hs.out]; rfl⟩, by simp [intOf]; omega⟩
        · have hjm : j = ms.length := by omega
          subst hjm
          cases hany : anyB ms zs ms.length
          · have HA := Lib.hid hany
            clear hany
            go_wp2_with fail
            refine wp_loop_rounds 1 ?_
            rw [rounds_succ]
            go_wp2
            go_ret
            exact ⟨ms, h, -1, rfl, .inl ⟨HA.out, rfl, rfl, rfl⟩, HK.out, Only.of_below hbel⟩
          · have HA := Lib.hid hany
            obtain ⟨K, r, hr⟩ := vrun_some zs ms h HK.out.2.2.1 HK.out.2.2.2.1 hany
            have HR := Lib.hid hr
            clear hany hr
            have hB0 : p < w.heap.size ∧ m < w.heap.size := ⟨HCk.out.2.2.2.2.1.lt, HCk.out.2.2.2.2.2.lt⟩
            go_wp2_with fail
            go_loopg [] K (fun k wv => ∃ (ms' : List Int) (h' : Nat), ClkAt wv p m ms' h' ∧ ms'.length = ms.length ∧ SetMap Try.prog 3 4 wv w.heap.size len zs ∧ vrun zs k ms' h' = some r ∧ Only (ClkS p m) w wv)
            case atStart => exact ⟨ms, h, HK.out, rfl, HS.out, HR.out, Only.of_below hbel⟩
            case round =>
              obtain ⟨ms', h', hck, hml, hset, hrun, honly⟩ := hrel
              cases gk with
              | zero => simp [vrun] at hrun
              | succ k2 =>
                have hck0 := Lib.hid hck
                obtain ⟨hpm, hc2, hh', hmk, hbp, hbm⟩ := hck
                have c0 := hbp.cell 0
                have c1 := hbp.cell 1
                have f1 := hbp.free 1
                simp only [List.getElem?_cons_zero, List.getElem?_cons_succ] at c0 c1
                have hml' := Lib.hid hml
                rw [hml] at c0 hc2 hh'
                have hBh := Lib.hid hB0
                have hrunH := Lib.hid hrun
                have hsetH := Lib.hid hset
                have honlyH := Lib.hid honly
                clear hpm hmk hbp hbm hml hB0 hrun hset honly
                go_wp2_with fail
                go_region
                obtain ⟨W1, hW1⟩ : ∃ W1 : World, W1 = (wr.setCell ⟨p, 1, none⟩ (.int .i64 (((h' : Int) + 1) % (ms.length : Int)))).drew := ⟨_, rfl⟩
                rw [← hW1]
                have hcn : ClkAt W1 p m ms' ((h' + 1) % ms'.length) := by
                  obtain ⟨hpm, hc2, hh', hmk, hbp, hbm⟩ := hck0.out
                  refine ⟨hpm, hc2, Nat.mod_lt _ (by omega), hmk, ?_, ?_⟩
                  · have := (hbp.set 1 (.int .i64 (((h' : Int) + 1) % (ms.length : Int)))).drew
                    rw [← hW1] at this
                    have e : ((h' : Int) + 1) % (ms.length : Int) = (((h' + 1) % ms'.length : Nat) : Int) := by rw [hml'.out]; simp
                    rw [e] at this
                    simpa using this
                  · have := (hbm.set_other (fun e => hpm e.symm) 1 (.int .i64 (((h' : Int) + 1) % (ms.length : Int)))).drew
                    rw [← hW1] at this
                    exact this
                have hsn : SetMap Try.prog 3 4 W1 w.heap.size len zs := hsetH.out.of_heap (by
                  rw [hW1]
                  exact Below.heap_setCell _ _ _ _ (by have := hBh.out.1; show w.heap.size ≠ p; omega))
                have hon : Only (ClkS p m) w W1 := by rw [hW1]; exact (honlyH.out.set (fun _ => .inl rfl) _).drew
                have HCn := Lib.hid hcn
                have HSn := Lib.hid hsn
                have HOn := Lib.hid hon
                clear hW1 f1 c0 c1 hck0 hsetH honlyH
                have c0 := hcn.2.2.2.2.1.cell 0
                simp only [List.getElem?_cons_zero] at c0
                rw [hml'.out] at c0
                have cj := marks_cell hcn.2.2.2.2.2 h' (by rw [hml'.out]; exact hh')
                have fj := hcn.2.2.2.2.2.free h'
                have hl := hsn.look Try.underlying52 Try.underlying3 Try.underlying4 Try.zero_bool (h' : Int) (by omega) (by omega)
                clear hcn hsn hon
                have hrun := hrunH.out
                unfold vrun at hrun
                by_cases e1 : mk ms' h' = 0
                · rw [if_pos (.inl e1)] at hrun
                  have HRn := Lib.hid hrun
                  rw [e1] at cj
                  clear hrun hrunH e1
                  go_wp2
                  go_roundg k2
                  case measure => omega
                  case rel => exact ⟨ms', _, HCn.out, hml'.out, HSn.out, HRn.out, HOn.out⟩
                · have e1' : (mk ms' h' == 0) = false := by simpa using e1
                  by_cases e2 : (h' : Int) ∈ zs
                  · rw [if_pos (.inr e2)] at hrun
                    have HRn := Lib.hid hrun
                    have e2' : decide ((h' : Int) ∈ zs) = true := by simpa using e2
                    rw [e2'] at hl
                    clear hrun hrunH e1 e2 e2'
                    go_wp2
                    go_roundg k2
                    case measure => omega
                    case rel => exact ⟨ms', _, HCn.out, hml'.out, HSn.out, HRn.out, HOn.out⟩
                  · rw [if_neg (by intro h; rcases h with h | h; exact e1 h; exact e2 h)] at hrun
                    have e2' : decide ((h' : Int) ∈ zs) = false := by simpa using e2
                    rw [e2'] at hl
                    by_cases e3 : mk ms' h' = 2
                    · rw [if_pos e3] at hrun
                      have HRn := Lib.hid hrun
                      rw [e3] at cj
                      clear hrun hrunH e1 e1' e2 e2' e3
                      go_wp2
                      go_roundg k2
                      case measure => omega
                      case rel =>
                        obtain ⟨hpm, hc2, hh', hmk, hbp, hbm⟩ := HCn.out
                        refine ⟨ms'.set h' 1, (h' + 1) % ms'.length, ⟨hpm, by simpa using hc2, by simpa using hh', hmk.set h' 1 (.inr (.inl rfl)), by simpa using hbp.set_other hpm h' _, marks_set hbm h' 1⟩, by simpa using hml'.out, HSn.out.of_heap (Below.heap_setCell _ _ _ _ (by have := hBh.out.2; show w.heap.size ≠ m; omega)), HRn.out, HOn.out.set (fun _ => .inr rfl) _⟩
                    · rw [if_neg e3] at hrun
                      have HRn := Lib.hid hrun
                      have e3' : (mk ms' h' == 2) = false := by simpa using e3
                      clear hrun e1 e2 e2' e3
                      go_wp2
                      go_ret
                      have hr2 := HRn.out
                      cases hr2
                      exact ⟨ms', _, _, rfl, .inr ⟨_, _, HA.out, HR.out, rfl⟩, HCn.out, HOn.out⟩
end Go.Proofs.Ytooooidnchgkaaa
