/- The walks through package span: with, Count, which, Find. -/
import Derived.Test.YtadbbknllakpcaaGreatSpnN
namespace Go.Proofs.YtadbbknllakpcaaGreat
open Go.RowKit
set_option linter.unusedVariables false

/-- A span that may be: its place, its class, its words. -/
structure Good (pg ps cl : Int) (len : Nat) (f : Nat → Bool) : Prop where
  p1 : 1 ≤ pg
  p2 : 1 ≤ ps
  p3 : pg + ps ≤ 4096
  live : LiveOk (perN cl) len f
  fit : (cl = 255 ∧ 3 ≤ ps) ∨ (cl ≠ 255 ∧ sizeL cl ≠ 0 ∧ pagesL cl = ps)
/-- How many octets an object has. -/
def sizN (cl ps : Int) : Nat := (sizeS cl ps).toNat
theorem Good.cls {pg ps cl : Int} {len : Nat} {f : Nat → Bool} (h : Good pg ps cl len f) : 0 ≤ cl ∧ cl ≤ 255 := by
  rcases h.fit with ⟨h1, _⟩ | ⟨_, h2, _⟩
  · omega
  · have := cls_facts cl h2; omega
theorem Good.size {pg ps cl : Int} {len : Nat} {f : Nat → Bool} (h : Good pg ps cl len f) :
    sizeS cl ps = (sizN cl ps : Nat) ∧ 1 ≤ sizN cl ps ∧ sizN cl ps ≤ 2097152 ∧ 1 ≤ perN cl ∧ perN cl ≤ 32 ∧ ((perN cl * sizN cl ps : Nat) : Int) ≤ 512 * ps := by
  have h1 := h.p1
  have h2 := h.p2
  have h3 := h.p3
  have hp := perN_cast cl
  have hle := perN_le cl
  rcases h.fit with ⟨rfl, h4⟩ | ⟨h4, h5, h6⟩
  · have e : sizeS 255 ps = ps * 512 := by unfold sizeS; rw [if_pos rfl]; exact IntWalk.wrap64_in _ (by omega)
    have e1 : perS 255 = 1 := rfl
    have e2 : perN 255 = 1 := rfl
    have e3 : sizN 255 ps = (ps * 512).toNat := by unfold sizN; rw [e]
    rw [e, e2, e3]
    omega
  · have e : sizeS cl ps = sizeL cl := if_neg h4
    have e1 : perS cl = perL cl := if_neg h4
    have hf := cls_facts cl h5
    have e3 : sizN cl ps = (sizeL cl).toNat := by unfold sizN; rw [e]
    have e4 : ((perN cl * sizN cl ps : Nat) : Int) = perL cl * sizeL cl := by
      rw [Int.natCast_mul, ← hp, e1, e3, Int.toNat_of_nonneg (by omega)]
    rw [e, e3] at *
    refine ⟨by omega, by omega, by omega, by omega, by omega, ?_⟩
    rw [e4, ← h6]
    omega
theorem Good.i64 {pg ps cl : Int} {len : Nat} {f : Nat → Bool} (h : Good pg ps cl len f) : I64 pg ∧ I64 ps ∧ I64 cl := by
  have h1 := h.p1
  have h2 := h.p2
  have h3 := h.p3
  have h4 := h.cls
  unfold I64
  omega
theorem Good.of_right {pg ps cl : Int} {len : Nat} {f : Nat → Bool} (h : rightP pg ps cl len f) (hf : ∀ i, 64 * len ≤ i → f i = false) : Good pg ps cl len f ∧ 0 < cntF f (perN cl) := by
  have hp : 1 ≤ pg ∧ 1 ≤ ps ∧ ps ≤ 4096 ∧ pg ≤ 4096 - ps := of_decide_eq_true h.1
  rcases h.2 with ⟨rfl, h1, h2⟩ | ⟨h1, h2, h3, h4, h5⟩
  · have h3 : len = 1 ∧ wd f 0 = 1 := of_decide_eq_true h2
    have e2 : perN 255 = 1 := rfl
    have hb : ∀ i, 1 ≤ i → f i = false := fun i hi => by
      by_cases h : i < 64
      · have := wd_testBit f 0 i
        rw [h3.2, decide_eq_true h, Bool.true_and, Nat.mul_zero, Nat.zero_add] at this
        rw [← this]
        rw [show (1 : Nat) = 2 ^ 0 by rfl, Nat.testBit_two_pow]
        simp; omega
      · exact hf i (by omega)
    have h0 : f 0 = true := by
      have := wd_testBit f 0 0
      rw [h3.2] at this
      simpa using this.symm
    refine ⟨⟨hp.1, hp.2.1, by omega, ⟨by rw [e2, h3.1]; rfl, fun i hi => hb i (by omega)⟩, .inl ⟨rfl, h1⟩⟩, ?_⟩
    rw [e2]; simp [cntF, h0]
  · exact ⟨⟨hp.1, hp.2.1, by omega, h4, .inr ⟨h1, h2, h3⟩⟩, h5⟩
theorem Good.put {pg ps cl : Int} {len : Nat} {f : Nat → Bool} (h : Good pg ps cl len f) (i : Nat) (b : Bool) (hi : i < perN cl) : Good pg ps cl len (Go.Proofs.YtadbbknllakpcaaGreat.put f i b) :=
  ⟨h.p1, h.p2, h.p3, ⟨h.live.1, fun j hj => by unfold Go.Proofs.YtadbbknllakpcaaGreat.put; rw [if_neg (by omega)]; exact h.live.2 j hj⟩, h.fit⟩
theorem fill_one (f : Nat → Bool) (i : Nat) (s : Bool) : fillF f i 1 s = put f i s := by rw [← fillF_succ, fillF_zero]; rfl

/-- A span's block. -/
def SpB (w : World) (b : Nat) (pg ps cl : Int) (A : Option Addr) (len cap : Nat) : Prop := Blk w b [.int .i64 pg, .int .i64 ps, .int .i64 cl, .slice A len cap] 27
theorem SpB.cells {w : World} {b : Nat} {pg ps cl : Int} {A : Option Addr} {len cap : Nat} (h : SpB w b pg ps cl A len cap) :
    w.cell? ⟨b, 0, none⟩ = some (.int .i64 pg) ∧ w.cell? ⟨b, 1, none⟩ = some (.int .i64 ps) ∧ w.cell? ⟨b, 2, none⟩ = some (.int .i64 cl) ∧ w.cell? ⟨b, 3, none⟩ = some (.slice A len cap) := by
  have h0 := Blk.cell h 0
  have h1 := Blk.cell h 1
  have h2 := Blk.cell h 2
  have h3 := Blk.cell h 3
  exact ⟨h0, h1, h2, h3⟩
theorem SpB.free {w : World} {b : Nat} {pg ps cl : Int} {A : Option Addr} {len cap : Nat} (h : SpB w b pg ps cl A len cap) :
    w.frozen? ⟨b, 0, none⟩ = false ∧ w.frozen? ⟨b, 1, none⟩ = false ∧ w.frozen? ⟨b, 2, none⟩ = false ∧ w.frozen? ⟨b, 3, none⟩ = false :=
  ⟨Blk.free h 0, Blk.free h 1, Blk.free h 2, Blk.free h 3⟩
theorem SpB.below {w w' : World} {b : Nat} {pg ps cl : Int} {A : Option Addr} {len cap : Nat} (h : SpB w b pg ps cl A len cap) (hb : Below w.heap.size w w') : SpB w' b pg ps cl A len cap := Blk.below h hb
theorem SpB.new (w : World) (pg ps cl : Int) (A : Option Addr) (len cap : Nat) : SpB (w.alloc (.cells #[.int .i64 pg, .int .i64 ps, .int .i64 cl, .slice A len cap] 27)) w.heap.size pg ps cl A len cap := Blk.new w #[.int .i64 pg, .int .i64 ps, .int .i64 cl, .slice A len cap] 27
/-- A world in which a span and an empty one have just been laid. -/
theorem two_spans (w : World) (pg ps cl : Int) (A : Option Addr) (len cap : Nat) : ∃ w1, ((w.alloc (.cells #[.int .i64 pg, .int .i64 ps, .int .i64 cl, .slice A len cap] 27)).alloc (.cells #[.int .i64 0, .int .i64 0, .int .i64 0, .slice none 0 0] 27)) = w1 ∧
    SpB w1 w.heap.size pg ps cl A len cap ∧ SpB w1 (w.heap.size + 1) 0 0 0 none 0 0 ∧ Below w.heap.size w w1 := by
  refine ⟨_, rfl, Blk.alloc (SpB.new w pg ps cl A len cap) _, ?_, ((Below.refl _ _).alloc (Nat.le_refl _) _).alloc (by simp) _⟩
  have := SpB.new (w.alloc (.cells #[.int .i64 pg, .int .i64 ps, .int .i64 cl, .slice A len cap] 27)) 0 0 0 none 0 0
  simpa using this
theorem one_span (w : World) (pg ps cl : Int) (A : Option Addr) (len cap : Nat) : ∃ w1, (w.alloc (.cells #[.int .i64 pg, .int .i64 ps, .int .i64 cl, .slice A len cap] 27)) = w1 ∧
    SpB w1 w.heap.size pg ps cl A len cap ∧ Below w.heap.size w w1 := ⟨_, rfl, SpB.new w pg ps cl A len cap, (Below.refl _ _).alloc (Nat.le_refl _) _⟩
theorem below4 {B b : Nat} {w w' : World} (h : Below B w w') (hb : B ≤ b) (x0 x1 x2 x3 : Value) : Below B w ((((w'.setCell ⟨b, 0, none⟩ x0).setCell ⟨b, 1, none⟩ x1).setCell ⟨b, 2, none⟩ x2).setCell ⟨b, 3, none⟩ x3) :=
  (((h.setCell (p := ⟨b, 0, none⟩) hb x0).setCell (p := ⟨b, 1, none⟩) hb x1).setCell (p := ⟨b, 2, none⟩) hb x2).setCell (p := ⟨b, 3, none⟩) hb x3
theorem WordsAt.set4 {w : World} {A : Option Addr} {len b : Nat} {f : Nat → Bool} (h : WordsAt w A len f) (hA : ∀ x o, A = some ⟨x, o, none⟩ → x ≠ b) (x0 x1 x2 x3 : Value) :
    WordsAt ((((w.setCell ⟨b, 0, none⟩ x0).setCell ⟨b, 1, none⟩ x1).setCell ⟨b, 2, none⟩ x2).setCell ⟨b, 3, none⟩ x3) A len f := by
  refine ⟨?_, h.2⟩
  rcases h.1 with h1 | ⟨b1, o1, rfl, hl, hc⟩
  · exact .inl h1
  · have hne := hA b1 o1 rfl
    refine .inr ⟨b1, o1, rfl, by simpa [World.setCell] using hl, fun i u hu => ?_⟩
    rw [← hc i u hu]
    simp [go_sem]

set_option maxHeartbeats 1000000 in
theorem with_calls (pg ps cl : Int) (A : Option Addr) (len cap : Nat) (w : World) (r a c n : Nat) (f g : Nat → Bool) (h : RowMid w r a c n f g) :
    Calls Tryz.prog 64 #[spV pg ps cl A len cap, .pointer (some ⟨r, 0, none⟩)] w fun e w' => ∃ A' cap', e = .returned (.agg #[.int .i64 pg, .int .i64 ps, .int .i64 cl, .slice A' (wn n) cap']) ∧ WordsAt w' A' (wn n) f ∧ Below w.heap.size w w' ∧ ∀ x o, A' = some ⟨x, o, none⟩ → w.heap.size ≤ x := by
  obtain ⟨w1, hw1, hS, hR, hB⟩ := two_spans w pg ps cl A len cap
  have HB := Lib.hid hB
  have HS := Lib.hid hS
  have HR := Lib.hid hR
  have HM := Lib.hid (h.below hB)
  have HF := Lib.hid h.2.2.1
  have hn := h.2.1
  have hl1 := hS.lt
  have hl2 := hR.lt
  unfold spV
  clear h hS hR hB
  go_enter Tryz.func64, Tryz.ntmps64
  go_wp2_with fail
  clear hw1
  refine (words_row _ r a c n f g HM.out).mono ?_
  rintro e w2 ⟨v, rfl, hown, hb⟩
  obtain ⟨A', cap', rfl⟩ := ownsRow_slice hown
  have hW : WordsAt w2 A' (wn n) f := ⟨RdAt.of_own hown, fun i hi => HF.out i (by unfold wn at hi; omega), by unfold wn; omega⟩
  have HA : Hid (∀ x o, A' = some ⟨x, o, none⟩ → w1.heap.size ≤ x) := Lib.hid fun x o he => by
    subst he
    exact (hown.lt x rfl).1
  have HW := Lib.hid hW
  have HB2 := Lib.hid (bel_next HB.out hb (Nat.le_refl _))
  have HS2 := Lib.hid (HS.out.below hb)
  have HR2 := Lib.hid (HR.out.below hb)
  obtain ⟨s0, s1, s2, s3⟩ := HS2.out.cells
  obtain ⟨q0, q1, q2, q3⟩ := HR2.out.cells
  obtain ⟨e0, e1, e2, e3⟩ := HR2.out.free
  have d3 := HS2.out.free.2.2.2
  clear hown hb hW
  go_wp2
  refine bodyPost_ret (v := spV pg ps cl A' (wn n) cap') (by simp [spV, results, Tryz.results64, go_sem, q0, q1, q2, q3]) rfl ⟨A', cap', rfl, ?_, ?_, fun x o he => Nat.le_trans HB.out.size (HA.out x o he)⟩
  · refine WordsAt.set4 ?_ (fun x o he => by have := HA.out x o he; omega) _ _ _ _
    refine ⟨?_, HW.out.2⟩
    rcases HW.out.1 with h1 | ⟨b1, o1, rfl, hl, hc⟩
    · exact .inl h1
    · have hne := HA.out b1 o1 rfl
      refine .inr ⟨b1, o1, rfl, by simpa [World.setCell] using hl, fun i u hu => ?_⟩
      rw [← hc i u hu]
      simp [go_sem]
  · exact below4 (HB2.out.setCell (p := ⟨w.heap.size, 3, none⟩) (Nat.le_refl _) _) (by omega) _ _ _ _

set_option maxHeartbeats 1000000 in
theorem count15_calls (pg ps cl : Int) (A : Option Addr) (len cap : Nat) (f : Nat → Bool) (w : World) (hg : Good pg ps cl len f) (h : WordsAt w A len f) :
    Calls Tryz.prog 44 #[spV pg ps cl A len cap] w fun e w' => e = .returned (.tuple #[.int .i64 (cntF f (perN cl) : Nat), .int .i64 (perN cl : Nat)]) ∧ Below w.heap.size w w' := by
  obtain ⟨w1, hw1, hS, hB⟩ := one_span w pg ps cl A len cap
  have HG := Lib.hid hg
  have HI := Lib.hid hg.i64
  have HB := Lib.hid hB
  have HS := Lib.hid hS
  have HW := Lib.hid (h.below hB)
  obtain ⟨s0, s1, s2, s3⟩ := HS.out.cells
  clear h hg hS hB
  unfold spV
  go_enter Tryz.func44, Tryz.ntmps44
  go_wp2_with fail
  refine (sizes_calls pg ps cl A len cap _ HI.out.1 HI.out.2.1 HI.out.2.2).mono ?_
  rintro e w2 ⟨rfl, hb⟩
  have HB2 := Lib.hid (bel_next HB.out hb (Nat.le_refl _))
  have HW2 := Lib.hid (HW.out.below hb)
  have HS2 := Lib.hid (HS.out.below hb)
  obtain ⟨s0, s1, s2, s3⟩ := HS2.out.cells
  rw [perN_cast]
  clear hb hw1
  go_wp2_with fail
  refine (row_calls pg ps cl A len cap f _ HI.out.1 HI.out.2.1 HI.out.2.2 HW2.out).mono ?_
  rintro e w3 ⟨hb, ⟨rfl, hno⟩ | ⟨r, a, c, rfl, hok, hr, g1, g2, g3⟩⟩
  · exact absurd HG.out.live hno
  · have HB3 := Lib.hid (bel_next HB2.out hb (Nat.le_refl _))
    have HR := Lib.hid hr
    clear hb hr hok
    go_wp2_with fail
    refine (count_row _ r a c (perN cl) f _ HR.out).mono ?_
    rintro e w4 ⟨rfl, rfl⟩
    go_wp2
    go_ret2
    exact ⟨rfl, HB3.out⟩

/-- The object that has an octet, and where in it that is. -/
def WhichR (pg : Int) (P S : Nat) (f : Nat → Bool) (x v u : Int) : Prop :=
  (v = -1 ∧ u = 0 ∧ ∀ i : Nat, i < P → f i = true → 512 * pg + ((i * S : Nat) : Int) ≤ x → 512 * pg + ((i * S : Nat) : Int) + S ≤ x) ∨
  ∃ i : Nat, i < P ∧ f i = true ∧ v = i ∧ x = 512 * pg + ((i * S : Nat) : Int) + u ∧ 0 ≤ u ∧ u < S
set_option maxHeartbeats 1000000 in
theorem which_calls (pg ps cl : Int) (A : Option Addr) (len cap : Nat) (f : Nat → Bool) (x : Int) (w : World) (hg : Good pg ps cl len f) (hx : I64 x) (h : WordsAt w A len f) :
    Calls Tryz.prog 74 #[spV pg ps cl A len cap, .int .i64 x] w fun e w' => ∃ v u, e = .returned (.tuple #[.int .i64 v, .int .i64 u]) ∧ WhichR pg (perN cl) (sizN cl ps) f x v u ∧ Below w.heap.size w w' := by
  obtain ⟨w1, hw1, hS, hB⟩ := one_span w pg ps cl A len cap
  have HG := Lib.hid hg
  have HI := Lib.hid hg.i64
  have HB := Lib.hid hB
  have HS := Lib.hid hS
  have HW := Lib.hid (h.below hB)
  obtain ⟨s0, s1, s2, s3⟩ := HS.out.cells
  obtain ⟨z0, z1, z2, z3, z4, z5⟩ := hg.size
  have p1 := hg.p1
  have p2 := hg.p2
  have p3 := hg.p3
  unfold I64 at hx
  have HZ := Lib.hid z0
  generalize hSz : sizN cl ps = S at *
  generalize hPn : perN cl = P at *
  have hPc := Lib.hid ((perN_cast cl).trans (by rw [hPn]))
  have hPS : ((P * S : Nat) : Int) = (P : Int) * (S : Int) := by simp
  have hPp : 0 ≤ (P : Int) * (S : Int) := by rw [← hPS]; omega
  rw [hPS] at z5
  clear h hg hS hB z0 hSz
  unfold spV
  have hS0 : ((S : Int) == 0) = false := by rw [beq_eq_false_iff_ne]; omega
  go_enter Tryz.func74, Tryz.ntmps74
  go_wp2_with fail
  refine (sizes_calls pg ps cl A len cap _ HI.out.1 HI.out.2.1 HI.out.2.2).mono ?_
  rintro e w2 ⟨rfl, hb⟩
  have HB2 := Lib.hid (bel_next HB.out hb (Nat.le_refl _))
  have HW2 := Lib.hid (HW.out.below hb)
  have HS2 := Lib.hid (HS.out.below hb)
  obtain ⟨s0, s1, s2, s3⟩ := HS2.out.cells
  rw [hPc.out, HZ.out]
  clear hb hw1
  by_cases h1 : x < pg * 512
  · go_wp2
    go_ret2
    exact ⟨_, _, rfl, .inl ⟨rfl, rfl, fun i _ _ hle => by have : (0 : Int) ≤ ((i * S : Nat) : Int) := Int.natCast_nonneg _; omega⟩, HB2.out⟩
  · by_cases h2 : pg * 512 + (P : Int) * (S : Int) ≤ x
    · go_wp2
      go_ret2
      refine ⟨_, _, rfl, .inl ⟨rfl, rfl, fun i hi _ hle => ?_⟩, HB2.out⟩
      have h5 : (i + 1) * S ≤ P * S := Nat.mul_le_mul_right S hi
      rw [Nat.add_mul, Nat.one_mul] at h5
      omega
    · obtain ⟨d, hd⟩ : ∃ d : Nat, x = pg * 512 + d := ⟨(x - pg * 512).toNat, by omega⟩
      have hdP : d < P * S := by omega
      have hiP : d / S < P := Nat.div_lt_of_lt_mul (by rw [Nat.mul_comm]; exact hdP)
      have hdiv := Nat.div_add_mod d S
      have hmod : d % S < S := Nat.mod_lt _ (by omega)
      have hxd : x - pg * 512 = d := by omega
      have hq : (d : Int) / (S : Int) = ((d / S : Nat) : Int) := (Int.natCast_ediv d S).symm
      have hr : (d : Int) % (S : Int) = ((d % S : Nat) : Int) := (Int.natCast_emod d S).symm
      have HD := Lib.hid hd
      have h1' : pg * 512 ≤ x := by omega
      have h2' : x < pg * 512 + (P : Int) * (S : Int) := by omega
      generalize d / S = q at *
      generalize d % S = u at *
      have HE := Lib.hid hdiv
      clear h1 h2 hd hdiv hdP
      go_wp2_with fail
      refine (row_calls pg ps cl A len cap f _ HI.out.1 HI.out.2.1 HI.out.2.2 HW2.out).mono ?_
      rintro e w3 ⟨hb, ⟨rfl, hno⟩ | ⟨r, a, c, rfl, hok, hr', g1, g2, g3⟩⟩
      · exact absurd HG.out.live hno
      · have HB3 := Lib.hid (bel_next HB2.out hb (Nat.le_refl _))
        have HR := Lib.hid hr'
        have hqd : (x - pg * 512) / (S : Int) = (q : Int) := by rw [hxd, hq]
        clear hb hr' hok
        rw [hPn] at HR
        have hfin : ∀ b : Bool, f q = b → WhichR pg P S f x (if b then (q : Int) else -1) (if b then (u : Int) else 0) := by
          intro b hb
          have hx' := HD.out
          have he := HE.out
          rw [Nat.mul_comm] at he
          cases b
          · refine .inl ⟨rfl, rfl, fun i hi hfi hle => ?_⟩
            have hlo : q < i ∨ i < q ∨ i = q := by omega
            rcases hlo with h | h | h
            · have h5 : (q + 1) * S ≤ i * S := Nat.mul_le_mul_right S h
              rw [Nat.add_mul, Nat.one_mul] at h5
              omega
            · have h5 : (i + 1) * S ≤ q * S := Nat.mul_le_mul_right S h
              rw [Nat.add_mul, Nat.one_mul] at h5
              omega
            · rw [h, hb] at hfi; cases hfi
          · exact .inr ⟨q, hiP, hb, rfl, by simp only [if_true]; omega, by simp, by simp; omega⟩
        have HFin := Lib.hid hfin
        clear hfin
        cases hf : f q
        · have HF2 := Lib.hid (HFin.out false hf)
          go_wp2_with (go_at_call 84; refine (has_yes _ r a c P f _ q HR.out hiP).mono ?_; rintro e w' ⟨rfl, rfl⟩; rw [hf])
          go_ret2
          exact ⟨_, _, rfl, HF2.out, HB3.out⟩
        · have HF2 := Lib.hid (HFin.out true hf)
          go_wp2_with (first | (go_at_call 84; refine (has_yes _ r a c P f _ q HR.out hiP).mono ?_; rintro e w' ⟨rfl, rfl⟩; rw [hf]))
          go_quiet (fail)
          go_wp2
          go_ret2
          rw [hr]
          exact ⟨_, _, rfl, by simpa using HF2.out, below_drewN HB3.out _⟩

set_option maxHeartbeats 1000000 in
theorem find15_calls (pg ps cl : Int) (A : Option Addr) (len cap : Nat) (f : Nat → Bool) (x : Int) (w : World) (hg : Good pg ps cl len f) (hx : I64 x) (h : WordsAt w A len f) :
    Calls Tryz.prog 42 #[spV pg ps cl A len cap, .int .i64 x] w fun e w' => Below w.heap.size w w' ∧
      ((e = .returned (.tuple #[.int .i64 0, .int .i64 0, .bool false]) ∧ WhichR pg (perN cl) (sizN cl ps) f x (-1) 0) ∨
       ∃ (i : Nat) (u : Int), e = .returned (.tuple #[.int .i64 (x - u), .int .i64 (sizN cl ps : Nat), .bool true]) ∧ WhichR pg (perN cl) (sizN cl ps) f x i u) := by
  obtain ⟨w1, hw1, hS, hB⟩ := one_span w pg ps cl A len cap
  have HG := Lib.hid hg
  have HX := Lib.hid hx
  have HI := Lib.hid hg.i64
  have HB := Lib.hid hB
  have HS := Lib.hid hS
  have HW := Lib.hid (h.below hB)
  obtain ⟨s0, s1, s2, s3⟩ := HS.out.cells
  obtain ⟨z0, z1, z2, z3, z4, z5⟩ := hg.size
  have p1 := hg.p1
  have p3 := hg.p3
  have HZ := Lib.hid z0
  unfold I64 at hx
  clear h hg hS hB z0 z5
  unfold spV
  go_enter Tryz.func42, Tryz.ntmps42
  go_wp2_with fail
  refine (which_calls pg ps cl A len cap f x _ HG.out HX.out HW.out).mono ?_
  rintro e w2 ⟨v, u, rfl, hwh, hb⟩
  have HB2 := Lib.hid (bel_next HB.out hb (Nat.le_refl _))
  have HS2 := Lib.hid (HS.out.below hb)
  obtain ⟨s0, s1, s2, s3⟩ := HS2.out.cells
  clear hw1 hb
  rcases hwh with ⟨rfl, rfl, hno⟩ | ⟨i, hi, hfi, rfl, hxe, hu0, hu1⟩
  · have HN := Lib.hid hno
    clear hno
    go_wp2
    refine bodyPost_ret (v := .tuple #[.int .i64 0, .int .i64 0, .bool false]) (by simp [results, Tryz.results42, go_sem]) rfl ?_
    exact ⟨HB2.out, .inl ⟨rfl, .inl ⟨rfl, rfl, HN.out⟩⟩⟩
  · have HN := Lib.hid hxe
    have hw0 : -9223372036854775808 ≤ x - u ∧ x - u ≤ 9223372036854775807 := by omega
    clear hxe
    go_wp2_with fail
    refine (sizes_calls pg ps cl A len cap _ HI.out.1 HI.out.2.1 HI.out.2.2).mono ?_
    rintro e w3 ⟨rfl, hb⟩
    have HB3 := Lib.hid (bel_next HB2.out hb (Nat.le_refl _))
    rw [HZ.out]
    clear hb
    go_wp2
    refine bodyPost_ret (v := .tuple #[.int .i64 (x - u), .int .i64 (sizN cl ps : Nat), .bool true]) (by simp [results, Tryz.results42, go_sem]) rfl ?_
    exact ⟨HB3.out, .inr ⟨i, u, rfl, .inr ⟨i, hi, hfi, rfl, HN.out, hu0, hu1⟩⟩⟩
end Go.Proofs.YtadbbknllakpcaaGreat
