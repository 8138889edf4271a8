/- The walk of SlotsActs. -/
import Derived.Test.YtajfigihliafeaaSlActs3
import Derived.Test.YtajfigihliafeaaStep
import Derived.Deep.CutBlock
import Derived.Deep.DeepCutAuto
import Derived.BigRegion
import Derived.Test.YtajfigihliafeaaTail
namespace Go.Proofs.Ytajfigihliafeaa
open Go.RowKit
set_option linter.unusedVariables false

theorem acts9_in {w1 w2 : World} {v' : Value} {len : Nat} {zs : List Int} {e : TypeId} (hown : w2.ownsRow w1.heap.size e 1 v' (0 + len) ([] ++ zs.map (.int .i64))) (hb : ∀ z ∈ zs, -9223372036854775808 ≤ z ∧ z ≤ 9223372036854775807)
    (hg : (w1.alloc (.cells #[] e)).grownBy w2 (Value.slice (some ⟨w1.heap.size, 0, none⟩) 0 0).ownBlock) :
    ∃ A1 c1, v' = .slice A1 len c1 ∧ IntsAt w2 A1 len zs ∧ Below w1.heap.size w1 w2 ∧ (len ≤ c1 ∧ c1 ≤ maxLen) ∧ ∀ x o, A1 = some ⟨x, o, none⟩ → w1.heap.size ≤ x := by
  rw [Nat.zero_add, List.nil_append] at hown
  obtain ⟨A1, c1, rfl, h1, h2⟩ := IntsAt.of_own hown hb
  refine ⟨A1, c1, rfl, h1, lit_below ((Below.refl _ _).alloc (Nat.le_refl _) _) (by simp) (Nat.le_refl _) hg, ?_, h2⟩
  rcases ownsRow_form hown with ⟨he, hn⟩ | ⟨g, cap, he, _, _, h3, h4⟩
  · cases he; omega
  · cases he; exact ⟨h3, h4⟩

theorem intsV_one (zs : List Int) : ∀ u ∈ zs.map (Value.int .i64), u.oneCell' = true := fun v hv => by obtain ⟨k, _, rfl⟩ := List.mem_map.1 hv; rfl
theorem is_pairb {w0 w : World} {b r a c g q u A n cap sl : Nat} {sp cs : List Value} {s : Option Addr} {ts : List Int} {f : Nat → Bool} (hB : Both9 w0 w b r a c g q u A n cap sp cs s sl ts f f) (k : Int) {bb : Bool} (hb : hasB n f k = bb) :
    Calls Try.prog 14 #[.pointer (some ⟨b, 0, none⟩), .int .i64 k] w fun e w' => e = .returned (.bool bb) ∧ w = w' := hb ▸ is_pair hB k
theorem RdAt.of_intsAt {w : World} {a : Option Addr} {len : Nat} {zs : List Int} (h : IntsAt w a len zs) : RdAt w a len (zs.map (.int .i64)) := by
  rcases h.2.2 with h0 | ⟨b, o, rfl, hb, hc⟩
  · exact .inl h0
  · refine .inr ⟨b, o, rfl, hb, fun i v hv => ?_⟩
    rw [List.getElem?_map] at hv
    cases hz : zs[i]? with
    | none => rw [hz] at hv; cases hv
    | some z =>
      rw [hz] at hv
      cases hv
      have hi : i < len := by have := (List.getElem?_eq_some_iff.1 hz).1; have := h.1; omega
      rw [hc i hi, hz]; rfl

set_option maxRecDepth 100000 in
set_option maxHeartbeats 16000000 in
theorem acts_yes (n : Nat) (a0 : Option Addr) (len0 cap0 : Nat) (zs0 : List Int) (v : Value) (qq : Option Addr × Nat × Nat) (w : World) (hn : 1 ≤ n ∧ n ≤ 65536) (h0 : IntsAt w a0 len0 zs0) (hl0 : len0 ≤ 60) (hA : ActsAt w v qq) (hl1 : qq.2.1 ≤ 30) :
    Calls Try.prog 6 #[.int .i64 n, .slice a0 len0 cap0, v] w fun e w' => e = .returned (.bool true) ∧ Below w.heap.size w w' := by
  obtain ⟨a, len, cp⟩ := qq
  obtain ⟨rfl, _, hrows⟩ := hA
  have hl1 : len ≤ 30 := hl1
  have HRw := Lib.hid hrows
  have HZ0 := Lib.hid h0
  obtain ⟨i0, hi, hz0, hz1, hz2⟩ := info_parts Try.info_int
  clear hrows h0
  go_enter Try.func6, Try.ntmps6
  go_wp2_with fail
  refine (awake_calls09 _).mono ?_
  rintro e w1 ⟨rfl, hb1⟩
  have HB1 := Lib.hid hb1
  have HZ1 := Lib.hid (HZ0.out.below hb1)
  clear hb1
  go_wp2_with fail
  refine (newb_calls _ n a0 len0 cap0 zs0 hn.1 hn.2 HZ1.out (by omega)).mono ?_
  rintro e w2 ⟨hb2, hcase⟩
  have HB2 := Lib.hid (bel_next HB1.out hb2 (Nat.le_refl _))
  have HZ2 := Lib.hid (HZ1.out.below hb2)
  clear hb2
  rcases hcase with ⟨rfl, ht⟩ | ⟨b, r, ba, c, g, cap, sp, f, rfl, ht, hbd, h1, h2, h3, h4, h5⟩
  · have HT := Lib.hid ht
    clear ht
    go_wp2_with fail
    refine (new9_calls _ n a0 len0 cap0 zs0 hn.1 hn.2 HZ2.out (by omega)).mono ?_
    rintro e w3 ⟨hb3, ⟨rfl, _⟩ | ⟨q, u, f, rfl, ht', _⟩⟩
    · have HB3 := Lib.hid (bel_next HB2.out hb3 (Nat.le_refl _))
      clear hb3
      go_wp2
      go_ret
      exact ⟨rfl, HB3.out⟩
    · rw [HT.out] at ht'; cases ht'
  · have HT := Lib.hid ht
    have HBd := Lib.hid hbd
    have hS : w.heap.size ≤ b ∧ w.heap.size ≤ r ∧ w.heap.size ≤ ba ∧ w.heap.size ≤ c ∧ w.heap.size ≤ g := by have := HB1.out.size; omega
    have hL : b < w2.heap.size ∧ r < w2.heap.size ∧ ba < w2.heap.size ∧ c < w2.heap.size ∧ g < w2.heap.size := ⟨hbd.2.2.1.lt, hbd.2.2.2.1.2.2.2.1.lt, hbd.2.2.2.1.2.2.2.2.1.lt, hbd.2.2.2.1.2.2.2.2.2.lt, hbd.2.2.2.2.lt⟩
    have HS := Lib.hid hS
    have HL := Lib.hid hL
    clear ht hbd h1 h2 h3 h4 h5 hS hL
    go_wp2_with fail
    refine (new9_calls _ n a0 len0 cap0 zs0 hn.1 hn.2 HZ2.out (by omega)).mono ?_
    rintro e w3 ⟨hb3, ⟨rfl, ht'⟩ | ⟨q, u, f', rfl, ht', hr, h1, h2⟩⟩
    · rw [HT.out] at ht'; cases ht'
    · obtain rfl : f = f' := by have := HT.out; rw [ht'] at this; cases this; rfl
      have HBd3 := Lib.hid (BMid.below HBd.out hb3)
      have HR3 := Lib.hid hr
      have HB3 := Lib.hid (bel_next HB2.out hb3 (Nat.le_refl _))
      have HQ := Lib.hid (And.intro (And.intro h1 h2) (And.intro hr.2.2.1.lt hr.2.2.2.lt))
      have HQn := Lib.hid hr.1
      have hs23 := HB2.out.size
      clear ht' hr hb3 h1 h2 HBd
      go_wp2_with fail
      refine (size_calls _ b r ba c g n cap sp f HBd3.out).mono ?_
      rintro e w4 ⟨rfl, rfl⟩
      by_cases hn4 : 400 < n
      · go_wp2
        go_ret
        exact ⟨rfl, HB3.out⟩
      · go_wp2_with fail
        go_loopg [10] len (fun gg i wr => ∃ (j : Nat) (f : Nat → Bool), gg + j = len ∧ i = .int .i64 j ∧ BoardAt wr b r ba c g n cap sp f ∧ R9At wr q u n f ∧ Below w.heap.size w wr)
        case atStart => exact ⟨0, f, by omega, rfl, HBd3.out, HR3.out, HB3.out⟩
        case round =>
          clear HBd3 HR3 HT HZ1 HZ2
          obtain ⟨j, f, hj, rfl, hbd, hr, hbe⟩ := hrel
          have HBD := Lib.hid hbd
          have HRF := Lib.hid hr
          have HBE := Lib.hid hbe
          clear hbd hr hbe
          by_cases hlt : j < len
          · obtain ⟨ab, ao, ha, hbl, hcells⟩ := (HRw.out).resolve_left (by show ¬ len = 0; omega)
            obtain ⟨kd, pl, s, sl, sc, zs, ⟨c0, c1, c2⟩, hkd, hpl, hrow⟩ := hcells j hlt
            have hbl : ab < w.heap.size := hbl
            have ha : a = some ⟨ab, ao, none⟩ := ha
            have d0 := (HBE.out.cell (p := ⟨ab, ao + j * 3, none⟩) hbl).trans c0
            have d1 := (HBE.out.cell (p := ⟨ab, ao + j * 3 + 1, none⟩) hbl).trans c1
            have d2 := (HBE.out.cell (p := ⟨ab, ao + j * 3 + 2, none⟩) hbl).trans c2
            have hz := IntsAt.of_row hrow
            generalize zs.take sl = ts at hz
            have HZ := Lib.hid hz
            clear hcells c0 c1 c2 hrow hz hbl
            subst ha
            by_cases hsl : 60 < sl
            · go_wp2
              go_ret
              exact ⟨rfl, HBE.out.alloc HBE.out.size _⟩
            · have hsl' : sl ≤ 60 := by omega
              clear hsl
              have hD : D9 w.heap.size b r ba c g q u wr.heap.size := by
                have e0 := HBE.out.size
                have e1 := HBD.out.2.2.1.lt
                have e2 := HBD.out.2.2.2.1.2.2.2.1.lt
                have e3 := HBD.out.2.2.2.1.2.2.2.2.1.lt
                have e4 := HBD.out.2.2.2.1.2.2.2.2.2.lt
                have e5 := HBD.out.2.2.2.2.lt
                have e6 := HRF.out.2.2.1.lt
                have e7 := HRF.out.2.2.2.lt
                have e8 := HS.out
                have e9 := HL.out
                have e10 := HQ.out
                exact ⟨by omega, by omega, by omega, by omega⟩
              have HD := Lib.hid hD
              have hC : Clear9 s sl r ba c g u := fun x o e hp => by
                rcases HZ.out.2.2 with h0 | ⟨b', o', ha', hb', _⟩
                · omega
                · rw [ha'] at e; cases e
                  have e8 := hD.lo
                  omega
              have HC := Lib.hid hC
              clear hD hC
              go_upto_block 2 with fail
              go_cut [12] (fun s12 wx => s12 = .bool true ∧ ∃ f', Both9 w wx b r ba c g q u wr.heap.size n cap sp [.int .i64 kd, .int .i64 pl, .slice s sl sc] s sl ts f' f')
              case first =>
                generalize hW0 : wr.alloc (.cells #[.int .i64 kd, .int .i64 pl, .slice s sl sc] 44) = W0
                have hb0 : Below wr.heap.size wr W0 := by rw [← hW0]; exact (Below.refl _ _).alloc (Nat.le_refl _) _
                have hbl0 : Blk W0 wr.heap.size [.int .i64 kd, .int .i64 pl, .slice s sl sc] 44 := by rw [← hW0]; exact Blk.new wr #[.int .i64 kd, .int .i64 pl, .slice s sl sc] 44
                have hBo : Both9 w W0 b r ba c g q u wr.heap.size n cap sp [.int .i64 kd, .int .i64 pl, .slice s sl sc] s sl ts f f :=
                  ⟨BMid.below HBD.out hb0, HRF.out.below hb0, hbl0, (HZ.out.below HBE.out).below hb0, bel_next HBE.out hb0 (Nat.le_refl _)⟩
                have HTb := Lib.hid HZ.out.2.1
                clear hW0 hb0 hbl0 d0 d1 d2 HBD HRF HBE HZ
                generalize wr.heap.size = A at *
                have q0 := hBo.cell0
                by_cases k0 : kd = 0
                · subst k0
                  go_wp2_with fail
                  refine (take_both HD.out HC.out hBo).mono ?_
                  rintro e w4 ⟨x1, y1, f1, rfl, ha1, hB1⟩
                  clear hBo q0
                  go_wp2_with fail
                  refine (take9_both HD.out HC.out hB1).mono ?_
                  rintro e w5 ⟨x2, y2, f2, rfl, ha2, hB2⟩
                  obtain ⟨rfl, rfl, rfl⟩ := ha1.out.one ha2.out
                  clear hB1 ha1 ha2
                  go_wp2
                  go_meet
                  case rel => exact ⟨by simp, _, hB2⟩
                · have k0' : (kd == 0) = false := by simpa using k0
                  clear k0
                  by_cases k1 : kd = 1
                  · subst k1
                    have q1 := hBo.cell1
                    go_wp2_with fail
                    refine (run_both HD.out HC.out hBo pl).mono ?_
                    rintro e w4 ⟨x1, y1, f1, rfl, ha1, hB1⟩
                    clear hBo q0 q1
                    have q1 := hB1.cell1
                    go_wp2_with fail
                    refine (run9_both HD.out HC.out hB1 pl).mono ?_
                    rintro e w5 ⟨x2, y2, f2, rfl, ha2, hB2⟩
                    obtain ⟨rfl, rfl, rfl⟩ := ha1.out.one ha2.out
                    clear hB1 ha1 ha2 q1
                    go_wp2
                    go_meet
                    case rel => exact ⟨by simp, _, hB2⟩
                  · have k1' : (kd == 1) = false := by simpa using k1
                    clear k1
                    by_cases k2 : kd = 2
                    · subst k2
                      have q2 := hBo.cell2
                      have hAl := hBo.2.2.1.lt
                      have hown := Lib.hid (World.ownsRow_made (base := W0.heap.size) (e := 3) (size := 1) W0 #[] 0 (Nat.le_refl _) (by simp) (by simp))
                      have HR1 := Lib.hid ((RdAt.of_intsAt hBo.2.2.2.1).alloc (.cells #[] 3))
                      have HTl := Lib.hid (show (ts.map (Value.int .i64)).length = sl * 1 by rw [List.length_map, hBo.2.2.2.1.1, Nat.mul_one])
                      have hlts : r < W0.heap.size ∧ ba < W0.heap.size ∧ c < W0.heap.size ∧ g < W0.heap.size ∧ u < W0.heap.size := ⟨hBo.1.2.2.2.1.2.2.2.1.lt, hBo.1.2.2.2.1.2.2.2.2.1.lt, hBo.1.2.2.2.1.2.2.2.2.2.lt, hBo.1.2.2.2.2.lt, hBo.2.1.2.2.2.lt⟩
                      have HLts := Lib.hid hlts
                      clear hlts
                      go_wp2_with (at_builtin; refine wpList_append_rd rfl (.tmp 128) (.tmp 130) 34 rfl W0.heap.size 3 i0 _ 1 8 Try.underlying34 hi hz0 hz1 hz2 rfl (by decide) (.slice (some ⟨W0.heap.size, 0, none⟩) 0 0) 0 [] rfl hown.out s sl sc rfl (ts.map (.int .i64)) HTl.out HR1.out (intsV_one _) (by omega) (by unfold maxLen; omega) (by simp) ?_; intro v' w5 hown5 hgr5 hnew5 hnil5; obtain ⟨A5, c5, rfl, hi5, hb5, hc5, ha5⟩ := acts9_in hown5 HTb.out hgr5; have hB5 := hBo.below hb5; have HC5 := Lib.hid (show Clear9 A5 sl r ba c g u from fun x o e hl => by have := ha5 x o e; have := HLts.out; omega); have HCp := Lib.hid hc5; clear hown5 hgr5 hnew5 hnil5 hb5 hc5 ha5)
                      clear hBo q0 q2 hown HR1 HTl HLts
                      replace hB5 := hB5.drew
                      replace hi5 : IntsAt w5.drew A5 sl ts := hi5
                      have q2 := hB5.cell2
                      go_region_with (first | (go_at_call 13; refine (give_two HD.out HC.out HC5.out hB5 hi5 HCp.out.1 HCp.out.2).mono ?_; rintro e w6 ⟨x1, f1, rfl, hv1, hB5, hi5⟩; have q2 := hB5.cell2; obtain ⟨rfl, rfl⟩ := GvA.one hv1.out hv2.out) | (go_at_call 13; refine (give_two HD.out HC.out HC5.out hB5 hi5 HCp.out.1 HCp.out.2).mono ?_; rintro e w6 ⟨x1, f1, rfl, hv1, hB5, hi5⟩; have q2 := hB5.cell2) | (go_at_call 19; refine (give9_two HD.out HC.out HC5.out hB5 hi5 hsl').mono ?_; rintro e w7 ⟨x2, f2, rfl, hv2, hB5, hi5⟩; have q2 := hB5.cell2; obtain ⟨rfl, rfl⟩ := GvA.one hv1.out hv2.out) | (go_at_call 19; refine (give9_two HD.out HC.out HC5.out hB5 hi5 hsl').mono ?_; rintro e w7 ⟨x2, f2, rfl, hv2, hB5, hi5⟩; have q2 := hB5.cell2) | (go_at_call 20; refine (ints_two hB5 hi5 hsl').mono ?_; rintro e w8 ⟨rfl, hB5⟩))
                      all_goals
                        go_wp2
                        go_meet
                        case rel => exact ⟨rfl, _, hB5⟩
                    · have k2' : (kd == 2) = false := by simpa using k2
                      clear k2
                      go_wp2
                      go_meet
                      case rel => exact ⟨rfl, _, hBo⟩
              case rest =>
                obtain ⟨rfl, f', hP⟩ := hcut
                clear HBD HRF HBE HZ d0 d1 d2
                generalize wr.heap.size = A at *
                go_upto_if 188 with fail
                go_cut [188] (fun s188 wx => s188 = .bool false ∧ Both9 w wx b r ba c g q u A n cap sp [.int .i64 kd, .int .i64 pl, .slice s sl sc] s sl ts f' f')
                case first =>
                  replace hP := hP.drew
                  --PRE
                  refine wp_region_any (by kernel_rfl) ?_
                  change wpAny _ _ _ _ _ _ _ (World.drew _)
                  refine wpAny_ready (rs := [0]) (by kernel_rfl) (by simp) ?_
                  refine AllReady.cons rfl (fun K hK => ?_) AllReady.nil
                  go_simp
                  refine hK _ _ ?_
                  clear hK K
                  refine wpAny_ready (rs := [1]) (by kernel_rfl) (by simp) ?_
                  refine AllReady.cons rfl (fun K hK => ?_) AllReady.nil
                  go_simp
                  refine hK _ _ ?_
                  clear hK K
                  refine wpAny_ready (rs := [2]) (by kernel_rfl) (by simp) ?_
                  refine AllReady.cons rfl (fun K hK => ?_) AllReady.nil
                  go_simp
                  refine hK _ _ ?_
                  clear hK K
                  refine wpAny_take (i := 3) (v := .pointer (some ⟨b, 0, none⟩)) rfl (by kernel_rfl) (by kernel_rfl) (by kernel_rfl) (fun _ _ _ h => h) (Or.inl ⟨by rfl, fun wy => ?_⟩) ?_
                  · go_simp
                  refine wpAny_take (i := 5) (v := .pointer (some ⟨q, 0, none⟩)) rfl (by kernel_rfl) (by kernel_rfl) (by kernel_rfl) (fun _ _ _ h => h) (Or.inl ⟨by rfl, fun wy => ?_⟩) ?_
                  · go_simp
                  refine wpAny_ready (rs := [4]) (by kernel_rfl) (by simp) ?_
                  refine AllReady.cons rfl (fun K hK => ?_) AllReady.nil
                  go_simp
                  go_wp2_with (go_at_call 11; refine (free_pair hP).mono ?_; rintro e w5 ⟨rfl, hP⟩)
                  try clear hK K
                  refine wpAny_ready (rs := [6]) (by kernel_rfl) (by simp) ?_
                  refine AllReady.cons rfl (fun K hK => ?_) AllReady.nil
                  go_simp
                  go_wp2_with (go_at_call 21; refine (free9_pair hP).mono ?_; rintro e w6 ⟨rfl, hP⟩)
                  try clear hK K
                  refine wpAny_ready (rs := [7]) (by kernel_rfl) (by simp) ?_
                  refine AllReady.cons rfl (fun K hK => ?_) AllReady.nil
                  go_simp
                  refine hK _ _ ?_
                  clear hK K
                  refine wpAny_ready (rs := [8]) (by kernel_rfl) (by simp) ?_
                  refine AllReady.cons rfl (fun K hK => ?_) AllReady.nil
                  go_simp
                  refine hK _ _ ?_
                  clear hK K
                  refine wpAny_ready (rs := [9]) (by kernel_rfl) (by simp) ?_
                  refine AllReady.cons rfl (fun K hK => ?_) AllReady.nil
                  go_simp
                  refine hK _ _ ?_
                  clear hK K
                  refine wpAny_take (i := 10) (v := .pointer (some ⟨b, 0, none⟩)) rfl (by kernel_rfl) (by kernel_rfl) (by kernel_rfl) (fun _ _ _ h => h) (Or.inl ⟨by rfl, fun wy => ?_⟩) ?_
                  · go_simp
                  refine wpAny_take (i := 12) (v := .pointer (some ⟨q, 0, none⟩)) rfl (by kernel_rfl) (by kernel_rfl) (by kernel_rfl) (fun _ _ _ h => h) (Or.inl ⟨by rfl, fun wy => ?_⟩) ?_
                  · go_simp
                  refine wpAny_ready (rs := [11]) (by kernel_rfl) (by simp) ?_
                  refine AllReady.cons rfl (fun K hK => ?_) AllReady.nil
                  go_simp
                  go_wp2_with (go_at_call 12; refine (clusters_pair hP).mono ?_; rintro e w7 ⟨A7, c7, rfl, hi7, hb7, hP⟩)
                  try clear hK K
                  refine wpAny_ready (rs := [13]) (by kernel_rfl) (by simp) ?_
                  refine AllReady.cons rfl (fun K hK => ?_) AllReady.nil
                  go_simp
                  go_wp2_with (go_at_call 22; refine (clusters9_pair hP).mono ?_; rintro e w8 ⟨A8, c8, rfl, hi8, hb8, hP⟩)
                  try clear hK K
                  refine wpAny_ready (rs := [14]) (by kernel_rfl) (by simp) ?_
                  refine AllReady.cons rfl (fun K hK => ?_) AllReady.nil
                  go_simp
                  go_wp2_with (go_at_call 20; refine (ints_pair hP (hi7.below hb8) hi8).mono ?_; rintro e w9 ⟨rfl, hP⟩)
                  try clear hK K
                  refine wpAny_ready (rs := [15]) (by kernel_rfl) (by simp) ?_
                  refine AllReady.cons rfl (fun K hK => ?_) AllReady.nil
                  go_simp
                  refine hK _ _ ?_
                  clear hK K
                  refine wpAny_ready (rs := [16]) (by kernel_rfl) (by simp) ?_
                  refine AllReady.cons rfl (fun K hK => ?_) AllReady.nil
                  go_simp
                  refine hK _ _ ?_
                  clear hK K
                  refine wpAny_ready (rs := [17]) (by kernel_rfl) (by simp) ?_
                  refine AllReady.cons rfl (fun K hK => ?_) AllReady.nil
                  go_simp
                  refine hK _ _ ?_
                  clear hK K
                  have q1 := hP.cell1
                  have q3 := hP.rc
                  refine wpAny_tail 18 (by kernel_rfl) (by rfl) (by kernel_rfl) ?_
                  change wpQuiet _ _ _ _ (_ :: _) _
                  by_cases hpl0 : pl < 0
                  case' pos =>
                    have g1 : decide (0 ≤ pl) = false := decide_eq_false (by omega)
                    have HHb := Lib.hid (hasB_out n f' pl (by omega))
                    repeat (go_big_quiet_step (exact (is_pairb (hP.drewN _) pl HHb.out).mono fun e w' ⟨he, hw⟩ => ⟨he, _, hw.symm⟩))
                  case' neg =>
                    obtain ⟨x, rfl⟩ := Int.eq_ofNat_of_zero_le (show 0 ≤ pl by omega)
                    have g1 : decide (0 ≤ (x : Int)) = true := decide_eq_true (by omega)
                    by_cases hxn : x < n
                    case' pos =>
                      have g2 : decide ((x : Int) < (n : Int)) = true := decide_eq_true (by omega)
                      have g3 : (0 : Int) ≤ (x : Int) := by omega
                      have g4 : (x : Int) < (n : Int) := by omega
                      have q4 := hP.ru x hxn
                      have HHb := Lib.hid (hasB_nat n f' x hxn)
                      repeat (go_big_quiet_step (exact (is_pairb (hP.drewN _) (x : Int) HHb.out).mono fun e w' ⟨he, hw⟩ => ⟨he, _, hw.symm⟩))
                    case' neg =>
                      have g2 : decide ((x : Int) < (n : Int)) = false := decide_eq_false (by omega)
                      have HHb := Lib.hid (hasB_out n f' (x : Int) (by omega))
                      repeat (go_big_quiet_step (exact (is_pairb (hP.drewN _) (x : Int) HHb.out).mono fun e w' ⟨he, hw⟩ => ⟨he, _, hw.symm⟩))
                  all_goals
                    refine wpQuiet_nil ?_
                    intro wq hw'
                    obtain ⟨nq, hw''⟩ := hw'
                    subst hw''
                    go_wp2
                    go_meet
                    case rel => exact ⟨by simp, hP.drewN nq⟩
                case rest =>
                  obtain ⟨rfl, hP2⟩ := hcut
                  go_wp2
                  go_roundg (gk - 1)
                  case measure => omega
                  case rel => exact ⟨j + 1, f', by omega, by go_num, hP2.1, hP2.2.1, hP2.2.2.2.2⟩
          · obtain rfl : j = len := by omega
            go_wp2
            go_ret
            exact ⟨rfl, HBE.out⟩
end Go.Proofs.Ytajfigihliafeaa
