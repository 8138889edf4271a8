/- The walk of BitsRuns. -/
import Derived.Test.YtddajgdjmmnnpaaBitU
import Derived.Test.YtddajgdjmmnnpaaApp
import Derived.StillTailTactics
namespace Go.Proofs.Ytddajgdjmmnnpaa
open Go.RowKit
set_option linter.unusedVariables false

/-- A slice of numbers as it is read: each at most M. -/
def NumAt (k : IntKind) (M : Nat) (w : World) (a : Option Addr) (len : Nat) : Prop :=
  len = 0 ∨ ∃ b o, a = some ⟨b, o, none⟩ ∧ b < w.heap.size ∧ ∀ i, i < len → ∃ z : Nat, z ≤ M ∧ w.cell? ⟨b, o + i, none⟩ = some (.int k z)
theorem NumAt.of_row {k : IntKind} {M : Nat} {w : World} {a : Option Addr} {len cap : Nat} {zs : List Int} (h : IsRow k w a len cap zs) (hk : ∀ n : Int, (Lit.int k n).wf = true → 0 ≤ n ∧ n ≤ M) : NumAt k M w a len := by
  rcases h with ⟨rfl, rfl, rfl, rfl⟩ | ⟨x, rfl, h1, h2, h3, h4, h5⟩
  · exact .inl rfl
  · by_cases hc : 0 < len
    · obtain ⟨b, o, rfl, hcell⟩ := ints_at h4 (by omega)
      refine .inr ⟨b, o, rfl, World.block_lt_of_cell? w _ (hcell 0 (by omega)), fun i hi => ?_⟩
      have hi2 : i < zs.length := by omega
      have hb := hk _ (h5 zs[i] (List.getElem_mem hi2))
      refine ⟨(zs[i]).toNat, by omega, ?_⟩
      rw [hcell i hi2]
      have : zs.getD i 0 = zs[i] := by simp [List.getD, hi2]
      rw [this, Int.toNat_of_nonneg hb.1]
    · exact .inl (by omega)
theorem IsRow.len_le {k : IntKind} {w : World} {a : Option Addr} {len cap : Nat} {zs : List Int} (h : IsRow k w a len cap zs) : len ≤ 9223372036854775807 := by
  rcases h with ⟨rfl, rfl, rfl, rfl⟩ | ⟨x, rfl, h1, h2, h3, h4, h5⟩
  · omega
  · unfold maxLen at h2; omega

/-- Two rows of the call's own that do not lie in one block. -/
def Apart (v u : Value) : Prop := ∀ k, v.ownBlock = some k → u.ownBlock ≠ some k
theorem Apart.nil (u : Value) : Apart (.slice none 0 0) u := fun k h => by simp [Value.ownBlock] at h
theorem Apart.symm {v u : Value} (h : Apart v u) : Apart u v := fun k h1 h2 => h k h2 h1
theorem Apart.grown {w : World} {base size n : Nat} {e : TypeId} {xs : List Value} {v u v' : Value} (h : Apart v u) (hu : w.ownsRow base e size u n xs) {B : Nat} (hn : NewRow B v v') (hB : w.heap.size ≤ B) : Apart v' u := by
  intro k h1 h2
  rcases hn with hn | ⟨k', hk, hle⟩
  · exact h k (hn ▸ h1) h2
  · rw [hk] at h1; cases h1
    have := (hu.lt k h2).2
    omega
theorem ownsRow_grown {w w' : World} {base size n : Nat} {e : TypeId} {xs : List Value} {v u : Value} (hu : w.ownsRow base e size u n xs) (hg : w.grownBy w' v.ownBlock) (h : Apart v u) : w'.ownsRow base e size u n xs := by
  refine hu.kept hg ?_
  cases hv : u.ownBlock
  · exact .inl rfl
  · exact .inr fun e => h _ e.symm hv

/-- What is known of the runs that were set. -/
def LInv (l : List (Nat × Nat)) (m : Nat) : Prop := Dis l ∧ ∀ x ∈ l, x.1 + x.2 ≤ m
theorem LInv.nil (m : Nat) : LInv [] m := ⟨List.Pairwise.nil, fun x h => by cases h⟩
theorem LInv.snoc {l : List (Nat × Nat)} {m : Nat} (h : LInv l m) (p k : Nat) (hk : p + k ≤ m) (hf : ∀ i, p ≤ i → i < p + k → cov l i = false) : LInv (l ++ [(p, k)]) m :=
  ⟨h.1.snoc p k hf, fun x hx => by
    rcases List.mem_append.1 hx with hx | hx
    · exact h.2 x hx
    · obtain rfl := List.mem_singleton.1 hx; exact hk⟩
theorem FindR.hit {f : Nat → Bool} {n k : Nat} {p : Nat} (h : FindR f n k (p : Int)) : p + k ≤ n ∧ ∀ i, p ≤ i → i < p + k → f i = false := by
  rcases h with ⟨h, _⟩ | ⟨q, h, h1, h2, h3⟩
  · omega
  · obtain rfl : p = q := by omega
    exact ⟨h1, h2⟩
theorem FindR.form {f : Nat → Bool} {n k : Nat} {v : Int} (h : FindR f n k v) : v = -1 ∨ ∃ p : Nat, v = p := by
  rcases h with ⟨h, _⟩ | ⟨q, h, _⟩
  · exact .inl h
  · exact .inr ⟨q, h⟩
def firsts (l : List (Nat × Nat)) : List Value := l.map fun x => .int .i64 x.1
def seconds (l : List (Nat × Nat)) : List Value := l.map fun x => .int .i64 x.2
theorem firsts_snoc (l : List (Nat × Nat)) (p k : Nat) : firsts l ++ [Value.int .i64 (p : Int)] = firsts (l ++ [(p, k)]) := by simp [firsts]
theorem seconds_snoc (l : List (Nat × Nat)) (p k : Nat) : seconds l ++ [Value.int .i64 (k : Int)] = seconds (l ++ [(p, k)]) := by simp [seconds]

set_option maxRecDepth 100000 in
set_option maxHeartbeats 8000000 in
theorem runs_walk (n : Int) (a0 : Option Addr) (len cap : Nat) (zs : List Int) (w : World) (wn0 : (Lit.int .i64 n).wf = true) (hrow : IsRow .u8 w a0 len cap zs) :
    Calls Try.prog 4 #[.int .i64 n, .slice a0 len cap] w fun e w' => e = .returned (.bool true) ∧ Below w.heap.size w w' := by
  have hlen := hrow.len_le
  have HAt := Lib.hid (NumAt.of_row (M := 255) hrow (fun n hn => by have := wf_u8 hn; omega))
  obtain ⟨b0, b1, b2, b3⟩ := rem_mod n 300 (by omega) (by omega)
  obtain ⟨m, hm⟩ : ∃ m : Nat, n.tmod 300 % 300 = m := ⟨(n.tmod 300 % 300).toNat, by omega⟩
  have hm2 : m ≤ 299 := by omega
  have HMm := Lib.hid hm
  obtain ⟨i0, hi, hz0, hz1, hz2⟩ := info_parts Try.info_int
  clear hrow wn0 hm
  by_cases hl : 30 < len
  · go_enter Try.func4, Try.ntmps4
    go_wp2_with fail
    refine (awake_calls08 _).mono ?_
    rintro e w1 ⟨rfl, hb1⟩
    go_wp2_with fail
    refine (awake_calls08 _).mono ?_
    rintro e w2 ⟨rfl, hb2⟩
    go_wp2
    go_ret
    exact ⟨rfl, bel_next hb1 hb2 (Nat.le_refl _)⟩
  · go_enter Try.func4, Try.ntmps4
    go_wp2_with fail
    refine (awake_calls08 _).mono ?_
    rintro e w1 ⟨rfl, hb1⟩
    have HB1 := Lib.hid hb1
    clear hb1
    go_wp2_with fail
    rw [HMm.out]
    refine (new_yes _ m (by omega)).mono ?_
    rintro e w2 ⟨r, a, c, rfl, hr, h1, h2, h3, hb2⟩
    have HR2 := Lib.hid hr
    have HB2 := Lib.hid (bel_next HB1.out hb2 (Nat.le_refl _))
    have hS : w.heap.size ≤ r ∧ w.heap.size ≤ a ∧ w.heap.size ≤ c := by have := HB1.out.size; omega
    have hL : r < w2.heap.size ∧ a < w2.heap.size ∧ c < w2.heap.size := ⟨hr.2.2.2.1.lt, hr.2.2.2.2.1.lt, hr.2.2.2.2.2.lt⟩
    have HS := Lib.hid hS
    have HL := Lib.hid hL
    clear hr hb2 h1 h2 h3 b0 b1 hS hL
    go_wp2_with fail
    go_loopg [8, 9, 10, 11] len (fun q tot va vn i wr => ∃ (j : Nat) (l : List (Nat × Nat)), q + j = len ∧ i = .int .i64 j ∧ tot = .int .i64 (cntF (cov l) m : Nat) ∧ l.length ≤ j ∧ Hid (LInv l m) ∧ RowAt wr r a c m (cov l) ∧ wr.ownsRow w2.heap.size 3 1 va l.length (firsts l) ∧ wr.ownsRow w2.heap.size 3 1 vn l.length (seconds l) ∧ Apart va vn ∧ w2.heap.size ≤ wr.heap.size ∧ Below w.heap.size w wr)
    case atStart => exact ⟨0, [], by omega, rfl, by rw [cov_nil, cntF_none]; rfl, by simp, Lib.hid (LInv.nil m), by rw [cov_nil]; exact HR2.out, World.ownsRow_nil _ _ _ _, World.ownsRow_nil _ _ _ _, Apart.nil _, Nat.le_refl _, HB2.out⟩
    case round =>
      obtain ⟨j, l, hj, rfl, rfl, hlj, hI, hr, ho1, ho2, hap, hsz, hb⟩ := hrel
      have HR := Lib.hid hr
      have HB := Lib.hid hb
      have HO1 := Lib.hid ho1
      have HO2 := Lib.hid ho2
      have HAp := Lib.hid hap
      have hcl := cntF_le (cov l) m
      clear hr hb ho1 ho2 hap
      by_cases hlt : j < len
      · obtain ⟨b, o, ha, hbl, hcells⟩ := (HAt.out).resolve_left (by omega)
        obtain ⟨z, hz, hc0⟩ := hcells j hlt
        have d0 := (HB.out.cell (p := ⟨b, o + j, none⟩) hbl).trans hc0
        obtain ⟨K, hK⟩ : ∃ K, z % 70 + 1 = K := ⟨_, rfl⟩
        have hK2 : 1 ≤ K ∧ K ≤ 70 := by omega
        have hKi : (1 : Int) + (z : Int) % 70 = (K : Int) := by omega
        have HKi := Lib.hid hKi
        clear hcells hc0 hbl hK hKi
        subst ha
        go_wp2_with fail
        rw [HKi.out]
        refine (find_calls _ r a c m (cov l) K HR.out (by omega) (by omega)).mono ?_
        rintro e w3 ⟨v, rfl, hv, rfl⟩
        rcases hv.form with rfl | ⟨p, rfl⟩
        · clear hv
          go_wp2
          go_roundg (gk - 1)
          case measure => omega
          case rel => exact ⟨j + 1, l, by omega, by go_num, rfl, by omega, hI, HR.out, HO1.out, HO2.out, HAp.out, hsz, HB.out⟩
        · have hhit := hv.hit
          have hpk := hhit.1
          have HF := Lib.hid hhit.2
          have HV := Lib.hid hv
          clear hv hhit
          have hcnt := cntF_fill (cov l) p m K hpk HF.out
          have HC := Lib.hid hcnt
          have hcl2 : cntF (cov l) m + K ≤ m := by have := cntF_le (fillF (cov l) p K true) m; omega
          clear hcnt
          by_cases hp : 0 < p
          case' pos =>
            have hbef : fillF (cov l) p K true (p - 1) = true := by unfold fillF; rw [if_neg (by omega)]; exact HV.out.before hp
            have HBef := Lib.hid hbef
            obtain ⟨p', hp'⟩ : ∃ p', p = p' + 1 := ⟨p - 1, by omega⟩
            have HP' := Lib.hid hp'
            have hpi : (p : Int) - 1 = (p' : Int) := by omega
            have HPi := Lib.hid hpi
            have hp2 : p' < m := by omega
            clear hbef hp' hpi
            go_wp2_with fail
            refine (set_ok _ r a c m (cov l) p K HR.out hpk HF.out).mono ?_
            rintro e w4 ⟨rfl, hr4, ho4⟩
            have HR4 := Lib.hid hr4
            have HO4 := Lib.hid ho4
            clear hr4 ho4
            go_wp2_with fail
            rw [HPi.out]
            refine (has_yes _ r a c m _ _ p' HR4.out (by omega)).mono ?_
            rintro e w5 ⟨rfl, rfl⟩
            rw [show fillF (cov l) p K true p' = true by have := HBef.out; rwa [show p - 1 = p' by have := HP'.out; omega] at this]
            clear HBef HPi hp2 HP'
          case' neg =>
            have hp0 : decide ((0 : Int) < (p : Int)) = false := by simp; omega
            go_wp2_with fail
            refine (set_ok _ r a c m (cov l) p K HR.out hpk HF.out).mono ?_
            rintro e w4 ⟨rfl, hr4, ho4⟩
            have HR4 := Lib.hid hr4
            have HO4 := Lib.hid ho4
            clear hr4 ho4
          all_goals
            have hs4 := HO4.out.size
            have HN1 := Lib.hid (ownsRow_only HO1.out HO4.out (fun k hk h => by have := HL.out; unfold RowS at h; omega))
            have HN2 := Lib.hid (ownsRow_only HO2.out HO4.out (fun k hk h => by have := HL.out; unfold RowS at h; omega))
            go_wp2_with (first | (at_builtin; refine wpList_append_one rfl (.tmp 71) (.tmp 73) 40 rfl w2.heap.size 3 i0 (.int .i64 0) 8 Try.underlying40 hi hz0 hz1 hz2 rfl u9 _ _ rfl HN1.out rfl rfl (by omega) (by unfold maxLen; omega) (by omega) ?_; intro v1 w5 hown1 hgr1 hnew1; have HX1 := Lib.hid hown1; have HG1 := Lib.hid hgr1; have HW1 := Lib.hid hnew1; have hs5 := hgr1.size; clear hown1 hgr1 hnew1) | (at_builtin; refine wpList_append_one rfl (.tmp 75) (.tmp 77) 40 rfl w2.heap.size 3 i0 (.int .i64 0) 8 Try.underlying40 hi hz0 hz1 hz2 rfl u10 _ _ rfl (ownsRow_grown HN2.out HG1.out HAp.out) rfl rfl (by omega) (by unfold maxLen; omega) (by omega) ?_; intro v2 w6 hown2 hgr2 hnew2; have HX2 := Lib.hid hown2; have HG2 := Lib.hid hgr2; have HW2 := Lib.hid hnew2; have hs6 := hgr2.size; clear hown2 hgr2 hnew2))
            go_roundg (gk - 1)
            case measure => omega
            case rel =>
              have hap1 : Apart v1 u10 := HAp.out.grown HN2.out HW1.out (by omega)
              have hN2' := ownsRow_grown HN2.out HG1.out HAp.out
              have hap2 : Apart v2 v1 := hap1.symm.grown HX1.out HW2.out (by omega)
              have hN1' := ownsRow_grown HX1.out HG2.out hap1.symm
              have hmid : Only (fun k => w2.heap.size ≤ k) w4 w6 := ((Only.refl _ w4).grown HG1.out (fun k hk _ => (HN1.out.lt k hk).1)).grown HG2.out (fun k hk _ => (HN2.out.lt k hk).1)
              refine ⟨j + 1, l ++ [(p, K)], by omega, by go_num, ?_, by simp; omega, Lib.hid (hI.out.snoc p K hpk HF.out), ?_, ?_, ?_, hap2.symm, by omega, ?_⟩
              · rw [cov_snoc, HC.out]; go_num
              · rw [cov_snoc]
                have := HL.out
                exact HR4.out.only hmid (by omega) (by omega) (by omega)
              · rw [← firsts_snoc l p K, List.length_append]; exact hN1'
              · rw [← seconds_snoc l p K, List.length_append]; exact HX2.out
              · have := HS.out
                exact bel_only (bel_only HB.out HO4.out (by have := HB2.out.size; omega) (fun i => RowS_lt this.1 this.2.1 this.2.2)) hmid (by have := HB2.out.size; omega) (fun i hi => by have := HB2.out.size; omega)
      · obtain rfl : j = len := by omega
        obtain ⟨A1, c1, rfl⟩ := ownsRow_slice HO1.out
        obtain ⟨A2, c2, rfl⟩ := ownsRow_slice HO2.out
        have HR1 := Lib.hid (ownsRow_rd HO1.out)
        have HR2' := Lib.hid (ownsRow_rd HO2.out)
        clear HO1 HO2 HAp
        have hl9 : l.length ≤ 30 := by omega
        go_wp2_with fail
        refine (count_row _ r a c m _ _ HR.out).mono ?_
        rintro e w7 ⟨rfl, rfl⟩
        obtain ⟨T, hT⟩ : ∃ T, cntF (cov l) m = T := ⟨_, rfl⟩
        rw [hT] at hcl ⊢
        clear hT
        have g1 : ((T : Int) != (T : Int)) = false := by simp
        have g2 : decide (n.tmod 300 % 300 < (T : Int)) = false := by rw [HMm.out]; simp; omega
        go_wp2_with fail
        obtain ⟨wo, rfl⟩ : ∃ wo : World, wo = wr := ⟨_, rfl⟩
        go_loopg [14] l.length (fun q i wx => ∃ t : Nat, q + t = l.length ∧ i = .int .i64 t ∧ RowAt wx r a c m (cov (l.drop t)) ∧ Only (RowS r a c) wo wx)
        case atStart => exact ⟨0, by omega, rfl, HR.out, Only.refl _ _⟩
        case round =>
          obtain ⟨t, ht, rfl, hr, ho⟩ := hrel
          have HRt := Lib.hid hr
          have HOt := Lib.hid ho
          clear hr ho
          by_cases hlt2 : t < l.length
          · obtain ⟨g1, rfl, hg1, hl1, hc1⟩ := (HR1.out).resolve_left (by omega)
            obtain ⟨g2, rfl, hg2, hl2, hc2⟩ := (HR2'.out).resolve_left (by omega)
            have hx1 := hc1 t (.int .i64 (l[t].1 : Int)) (by simp [firsts, hlt2])
            have hx2 := hc2 t (.int .i64 (l[t].2 : Int)) (by simp [seconds, hlt2])
            obtain ⟨p, k, hpk⟩ : ∃ p k, l[t] = (p, k) := ⟨_, _, rfl⟩
            rw [hpk] at hx1 hx2
            have hdr : l.drop t = (p, k) :: l.drop (t + 1) := by rw [List.drop_eq_getElem_cons hlt2, hpk]
            have hmem := hI.out.2 _ (List.getElem_mem hlt2)
            rw [hpk] at hmem
            have hdis : Dis ((p, k) :: l.drop (t + 1)) := by rw [← hdr]; exact hI.out.1.drop
            have HDr := Lib.hid hdr
            have HDis := Lib.hid hdis
            have y1 := (HOt.out.cell (p := ⟨g1, t, none⟩) hl1 (by have := HL.out; unfold RowS; simp only; omega)).trans hx1
            have y2 := (HOt.out.cell (p := ⟨g2, t, none⟩) hl2 (by have := HL.out; unfold RowS; simp only; omega)).trans hx2
            have hpm : p + k ≤ m := hmem
            clear hc1 hc2 hpk hdr hdis hx1 hx2 hmem
            go_wp2_with fail
            go_region_with (first | (go_at_call 16; refine (clear_ok _ r a c m (cov (l.drop t)) p k (HRt.out.drewN _) hpm (by rw [HDr.out]; exact cov_head p k _)).mono ?_; rintro e w8 ⟨rfl, hr8, ho8⟩))
            all_goals
              rw [HDr.out, cov_drop HDis.out] at hr8
              have HR8 := Lib.hid hr8
              have HO8 := Lib.hid ((only_drewN HOt.out 1).trans ho8 (fun _ _ h => h))
              clear hr8 ho8
              go_wp2
              go_roundg (gk - 1)
              case measure => omega
              case rel => exact ⟨t + 1, by omega, by go_num, HR8.out, HO8.out⟩
          · obtain rfl : t = l.length := by omega
            have hz : cov (l.drop l.length) = fun _ => false := by rw [List.drop_length, cov_nil]
            have hRe := HRt.out
            rw [hz] at hRe
            have HRe := Lib.hid hRe
            have HZ := Lib.hid (cntF_none m)
            clear hRe hz HRt
            go_wp2_with fail
            refine (count_row _ r a c m _ _ HRe.out).mono ?_
            rintro e w8 ⟨rfl, rfl⟩
            rw [HZ.out]
            go_wp2_with fail
            refine (next_calls _ r a c m _ _ 0 HRe.out (by omega)).mono ?_
            rintro e w9 ⟨v, rfl, hv, rfl⟩
            obtain rfl : v = -1 := hv.one (.inl ⟨rfl, fun _ _ => rfl⟩)
            clear hv
            go_wp2
            go_ret
            exact ⟨rfl, bel_only HB.out HOt.out (by have := HB2.out.size; omega) (fun i => by have := HS.out; exact RowS_lt this.1 this.2.1 this.2.2)⟩
end Go.Proofs.Ytddajgdjmmnnpaa
