/- The walk of runs.cut. -/
import Derived.Test.YtadbbknllakpcaaGreatRnW
import Derived.Deep.DeepCutAuto
import Derived.Deep.CutBlock
namespace Go.Proofs.YtadbbknllakpcaaGreat.rn
open Go.RowKit
set_option linter.unusedVariables false

theorem repl_rows {cur : List Value} {A M M' B : List (Nat × Nat)} {n : Nat} (hn : (A ++ M ++ B).length = n) (ht : cur.take (n * 2) = rowsV (A ++ M ++ B)) :
    cur.take (A.length * 2) ++ rowsV M' ++ (cur.take (n * 2)).drop ((A.length + M.length) * 2) = rowsV (A ++ M' ++ B) := by
  have h1 : cur.take (A.length * 2) = rowsV A := by
    have : (cur.take (n * 2)).take (A.length * 2) = cur.take (A.length * 2) := by
      rw [List.take_take]
      congr 1
      simp only [List.length_append] at hn
      omega
    rw [← this, ht, List.append_assoc, rowsV_take]
  rw [h1, ht, show A.length + M.length = (A ++ M).length by simp, rowsV_drop, ← rowsV_append, ← rowsV_append]
theorem src_of_own {w : World} {base g m c : Nat} {B : Option Addr} {ys : List Value} (h : w.ownsRow base 45 2 (.slice B m c) m ys) (hm : 0 < m) (hg : g < base) : SrcRow w g B m ys := by
  rcases h.2 with ⟨_, h0⟩ | ⟨vb, cap, cur, hv, hb, hh, _, _, _, ht⟩
  · omega
  · cases hv
    refine .inr ⟨vb, cur.toList, rfl, by unfold Blk; simpa using hh, by omega, ht, hm⟩
/-- What has become of the rows. -/
def LandR (w : World) (L g : Nat) (l : List (Nat × Nat)) (w' : World) : Prop := ∃ g' cap', LandAt w' L g' cap' l ∧ (g' = g ∨ w.heap.size ≤ g') ∧ Only (LandS L g) w w'
theorem land_store {w w1 w2 : World} {L g g' cap' tot : Nat} {x : Value} {l : List (Nat × Nat)} {cur' : List Value} (hb : Below w.heap.size w w1) (ho : Only (· = g) w1 w2) (hL : Blk w2 L [x] 91) (hLg : L ≠ g') (hlen : l.length = tot)
    (hs : SlcRow w2 g' tot cap' cur') (ht : cur'.take (tot * 2) = rowsV l) (hg : g' = g ∨ w1.heap.size ≤ g') (hLw : L < w.heap.size) :
    LandR w L g l (w2.setCell ⟨L, 0, none⟩ (.slice (some ⟨g', 0, none⟩) tot cap')) := by
  subst hlen
  refine ⟨g', cap', ⟨hLg, ?_, cur', ⟨hs.1.set_other hLg.symm _ _, hs.2⟩, ht⟩, ?_, ?_⟩
  · exact hL.set 0 _
  · rcases hg with h | h
    · exact .inl h
    · exact .inr (Nat.le_trans hb.size h)
  · exact ((Only.of_below hb).trans ho (fun i _ h => .inr h)).set (fun _ => .inl rfl) _
theorem app_first {w w2 : World} {R US : Obj} (hgr : ((w.alloc R).alloc US).grownBy w2 none) : Below w.heap.size w w2 ∧ w2.heap[w.heap.size]? = (w.alloc R).heap[w.heap.size]? := by
  have h0 : Below w.heap.size w ((w.alloc R).alloc US) := ((Below.refl _ _).alloc (Nat.le_refl _) _).alloc (by simp) _
  refine ⟨h0.grown hgr h0.size (fun k h => by cases h), ?_⟩
  rw [hgr.block w.heap.size (by simp; omega) (by simp)]
  exact by show ((w.alloc R).alloc US).heap[w.heap.size]? = _; exact Go.heap_alloc_old (w.alloc R) US (by simp)
theorem own_nil {w : World} {us : Array Value} {base : Nat} (hb : base ≤ w.heap.size) (hu : us.size = 2) :
    ((w.alloc (.cells (us ++ Builtin.zeroCells #[.int .i64 0, .int .i64 0] (grownCap w 1 0 45 - 1)) 45)).drew).ownsRow base 45 2 (.slice (some ⟨w.heap.size, 0, none⟩) 1 (grownCap w 1 0 45)) 1 us.toList := by
  have h1 := grownCap_ge w 1 0 45
  have h2 := grownCap_le_maxLen w 1 0 45 (by unfold maxLen; omega)
  refine ⟨by simpa using hu, .inr ⟨w.heap.size, _, _, rfl, hb, heap_alloc_new w _, h1, h2, ?_, ?_⟩⟩
  · rw [Array.size_append, hu, size_zeroCells]
    show 2 + (_ - 1) * 2 = _
    omega
  · rw [Array.toList_append, List.take_left' (by simpa using hu)]
theorem two_one (a b : Int) : ∀ u ∈ (#[Value.int .i64 a, Value.int .i64 b]).toList, u.oneCell' = true := fun u hu => List.all_eq_true.1 (show ([Value.int .i64 a, Value.int .i64 b]).all (fun v => v.oneCell') = true from rfl) u hu
theorem app_next {w w0 w3 : World} {v : Value} {n : Nat} {xs : List Value} (hB : Below w.heap.size w w0) (hown : w0.ownsRow w.heap.size 45 2 v n xs) (hgr : w0.grownBy w3 v.ownBlock) : Below w.heap.size w w3 :=
  hB.grown hgr hB.size (fun k hk => (hown.lt k hk).1)
set_option maxRecDepth 8000 in
set_option maxHeartbeats 4000000 in
theorem cut_calls (w : World) (L g cap : Nat) (A B : List (Nat × Nat)) (p : Nat × Nat) (x n : Nat) (hL : LandAt w L g cap (A ++ p :: B)) (h1 : p.1 ≤ x) (h2 : x + n ≤ p.1 + p.2) (hp : p.1 + p.2 ≤ 4096) (hlen : (A ++ p :: B).length ≤ 100000) :
    Calls Tryz.prog 51 #[.pointer (some ⟨L, 0, none⟩), .int .i64 A.length, .int .i64 x, .int .i64 n] w fun e w' => e = .returned (.tuple #[]) ∧ LandR w L g (A ++ leftR p x n ++ B) w' := by
  obtain ⟨i0, hi, hz0, hz1, hz2⟩ := info_parts Tryz.info_Row
  obtain ⟨k, hk⟩ : ∃ k, (A ++ p :: B).length = k := ⟨_, rfl⟩
  have hAk : A.length < k := by rw [← hk]; simp
  obtain ⟨r1, r2⟩ := hL.row (k := A.length) (a := p) (by simp)
  have c0 := hL.head
  rw [hk] at c0 hlen
  have hll := hL.lt
  obtain ⟨hne, hLb, cur, hs, ht⟩ := hL
  rw [hk] at hLb hs ht
  have HLb := Lib.hid hLb
  have HS := Lib.hid hs
  have HT := Lib.hid ht
  have HK := Lib.hid hk
  have hc1 : (x : Int) - (p.1 : Int) = ((x - p.1 : Nat) : Int) := by omega
  have hc2 : (p.1 : Int) + (p.2 : Int) - (x : Int) - (n : Int) = ((p.1 + p.2 - x - n : Nat) : Int) := by omega
  obtain ⟨a, ha⟩ : ∃ a, A.length = a := ⟨_, rfl⟩
  rw [ha] at r1 r2 hAk ⊢
  have HAa := Lib.hid ha
  clear hLb hs ht hk ha
  have hB1 := Lib.hid ((Below.refl w.heap.size w).alloc (Nat.le_refl _) (.cells #[.int .i64 p.1, .int .i64 p.2] 45))
  by_cases h3 : p.1 < x
  · by_cases h4 : x + n < p.1 + p.2
    · have h4' : 0 < p.1 + p.2 - x - n := by omega
      have HL := Lib.hid (show leftR p x n = [(p.1, x - p.1), (x + n, p.1 + p.2 - x - n)] by unfold leftR; rw [if_pos h3, if_pos h4]; rfl)
      go_enter Tryz.func51, Tryz.ntmps51
      go_upto_if 21 with fail
      go_cut [9] (fun v wx => Hid (wx.ownsRow w.heap.size 45 2 v 1 [.int .i64 (p.1 : Nat), .int .i64 ((x - p.1 : Nat) : Int)]) ∧ Hid (Below w.heap.size w wx) ∧ Blk wx w.heap.size [.int .i64 (p.1 : Nat), .int .i64 (p.2 : Nat)] 45)
      case first =>
        go_wp2
        go_meet
        case rel =>
          refine ⟨Lib.hid ?_, Lib.hid ?_, ?_⟩
          · have := own_nil (w := (w.alloc (.cells #[.int .i64 p.1, .int .i64 p.2] 45)).alloc (.cells #[.int .i64 p.1, .int .i64 ((x - p.1 : Nat) : Int)] 45)) (us := #[.int .i64 p.1, .int .i64 ((x - p.1 : Nat) : Int)]) (base := w.heap.size) (by simp; omega) rfl
            simpa [grownCap] using this
          · exact ((((Below.refl w.heap.size w).alloc (Nat.le_refl _) _).alloc (by simp) _).alloc (by simp; omega) _).drew
          · exact ((Blk.new w #[.int .i64 p.1, .int .i64 p.2] 45).alloc _).alloc _
      case rest =>
        obtain ⟨HO1, HB2, hRb⟩ := hcut
        have q0 := hRb.cell 0
        have q1 := hRb.cell 1
        simp only [List.getElem?_cons_zero, List.getElem?_cons_succ] at q0 q1
        have l0 := (HLb.out.below HB2.out).cell 0
        simp only [List.getElem?_cons_zero] at l0
        have hbs := HB2.out.size
        clear hRb
        go_wp2_with (first | (at_builtin; refine wpList_append_new rfl (.tmp 43) (.tmp 49) 89 rfl w.heap.size 45 i0 _ 2 16 Tryz.underlying89 hi hz0 hz1 hz2 rfl (by decide) u9 _ 1 _ rfl HO1.out rfl rfl (two_one _ _) (by omega) (by unfold maxLen; omega) (by first | omega | (simp; done) | (simp; omega)) ?_; intro v2 w3 hown2 hgr2 hnew2; have HB3 := Lib.hid (app_next HB2.out HO1.out hgr2); have HO2 := Lib.hid hown2; have l0 := (HLb.out.below HB3.out).cell 0; simp only [List.getElem?_cons_zero] at l0; clear hown2 hgr2 hnew2))
        obtain ⟨B2, c2, rfl⟩ := ownsRow_slice HO2.out
        obtain ⟨tot, htot⟩ : ∃ tot, a + 2 + (k - (a + 1)) = tot := ⟨_, rfl⟩
        have hlen2 : (A ++ leftR p x n ++ B).length = tot := by
          have h := HK.out
          have h' := HAa.out
          rw [HL.out]
          simp only [List.length_append, List.length_cons, List.length_nil] at h ⊢
          omega
        have hX : ∀ cur' : List Value, cur'.take (tot * 2) = cur.take (a * 2) ++ [.int .i64 (p.1 : Nat), .int .i64 ((x - p.1 : Nat) : Int), .int .i64 ((x : Int) + (n : Int)), .int .i64 ((p.1 + p.2 - x - n : Nat) : Int)] ++ (cur.take (k * 2)).drop ((a + 1) * 2) → cur'.take (tot * 2) = rowsV (A ++ leftR p x n ++ B) := fun cur' h => by
          rw [h, ← HAa.out]
          have h2 := repl_rows (cur := cur) (A := A) (M := [p]) (M' := leftR p x n) (B := B) (n := k) (by have := HK.out; simpa using this) (by have := HT.out; simpa using this)
          rw [HL.out] at h2 ⊢
          exact h2
        have HX := Lib.hid hX
        have HLen := Lib.hid hlen2
        clear hX hlen2
        have HS3 := Lib.hid (show SlcRow w3 g k cap cur from ⟨Blk.below HS.out.1 HB3.out, HS.out.2⟩)
        have HL3 := Lib.hid (HLb.out.below HB3.out)
        refine (replace_Row w3 g k cap a (a + 1) 2 _ _ cur [.int .i64 (p.1 : Nat), .int .i64 ((x - p.1 : Nat) : Int), .int .i64 ((x : Int) + (n : Int)), .int .i64 ((p.1 + p.2 - x - n : Nat) : Int)] HS3.out (by omega) (by omega) (src_of_own HO2.out (by omega) hll.2) (by rfl) (by omega) (fun v hv => List.all_eq_true.1 (show ([.int .i64 (p.1 : Nat), .int .i64 ((x - p.1 : Nat) : Int), .int .i64 ((x : Int) + (n : Int)), .int .i64 ((p.1 + p.2 - x - n : Nat) : Int)]).all (fun v => v.oneCell') = true from rfl) v hv) (by rw [HT.out]; exact rowsV_one _) (by omega)).mono ?_
        rintro e w4 ⟨g', cap', cur', rfl, hs4, ht4, hg4, ho4⟩
        rw [htot] at hs4 ht4 ⊢
        have hL4 := HL3.out.only ho4 (fun h => hne h)
        have HS4 := Lib.hid hs4
        have HT4 := Lib.hid ht4
        have HO4 := Lib.hid ho4
        have HL4 := Lib.hid hL4
        have l0 := hL4.cell 0
        have lf := hL4.free 0
        simp only [List.getElem?_cons_zero] at l0
        have hb3s := HB3.out.size
        have hLg' : L ≠ g' := by rcases hg4 with h | h <;> omega
        clear hs4 ht4 ho4 hL4
        go_wp2
        go_end0
        exact ⟨rfl, land_store HB3.out HO4.out HL4.out hLg' HLen.out HS4.out (HX.out _ HT4.out) hg4 hll.1⟩
    · have h4' : ¬ 0 < p.1 + p.2 - x - n := by omega
      have HL := Lib.hid (show leftR p x n = [(p.1, x - p.1)] by unfold leftR; rw [if_pos h3, if_neg h4]; rfl)
      go_enter Tryz.func51, Tryz.ntmps51
      go_upto_if 21 with fail
      go_cut [9] (fun v wx => Hid (wx.ownsRow w.heap.size 45 2 v 1 [.int .i64 (p.1 : Nat), .int .i64 ((x - p.1 : Nat) : Int)]) ∧ Hid (Below w.heap.size w wx) ∧ Blk wx w.heap.size [.int .i64 (p.1 : Nat), .int .i64 (p.2 : Nat)] 45)
      case first =>
        go_wp2
        go_meet
        case rel =>
          refine ⟨Lib.hid ?_, Lib.hid ?_, ?_⟩
          · have := own_nil (w := (w.alloc (.cells #[.int .i64 p.1, .int .i64 p.2] 45)).alloc (.cells #[.int .i64 p.1, .int .i64 ((x - p.1 : Nat) : Int)] 45)) (us := #[.int .i64 p.1, .int .i64 ((x - p.1 : Nat) : Int)]) (base := w.heap.size) (by simp; omega) rfl
            simpa [grownCap] using this
          · exact ((((Below.refl w.heap.size w).alloc (Nat.le_refl _) _).alloc (by simp) _).alloc (by simp; omega) _).drew
          · exact ((Blk.new w #[.int .i64 p.1, .int .i64 p.2] 45).alloc _).alloc _
      case rest =>
        obtain ⟨HO1, HB2, hRb⟩ := hcut
        have q0 := hRb.cell 0
        have q1 := hRb.cell 1
        simp only [List.getElem?_cons_zero, List.getElem?_cons_succ] at q0 q1
        have l0 := (HLb.out.below HB2.out).cell 0
        simp only [List.getElem?_cons_zero] at l0
        have hbs := HB2.out.size
        clear hRb
        obtain ⟨w3, rfl⟩ : ∃ w3 : World, w3 = wc := ⟨_, rfl⟩
        have HB3 := HB2
        obtain ⟨B2, c2, rfl⟩ := ownsRow_slice HO1.out
        go_wp2_with fail
        obtain ⟨tot, htot⟩ : ∃ tot, a + 1 + (k - (a + 1)) = tot := ⟨_, rfl⟩
        have hlen2 : (A ++ leftR p x n ++ B).length = tot := by
          have h := HK.out
          have h' := HAa.out
          rw [HL.out]
          simp only [List.length_append, List.length_cons, List.length_nil] at h ⊢
          omega
        have hX : ∀ cur' : List Value, cur'.take (tot * 2) = cur.take (a * 2) ++ [.int .i64 (p.1 : Nat), .int .i64 ((x - p.1 : Nat) : Int)] ++ (cur.take (k * 2)).drop ((a + 1) * 2) → cur'.take (tot * 2) = rowsV (A ++ leftR p x n ++ B) := fun cur' h => by
          rw [h, ← HAa.out]
          have h2 := repl_rows (cur := cur) (A := A) (M := [p]) (M' := leftR p x n) (B := B) (n := k) (by have := HK.out; simpa using this) (by have := HT.out; simpa using this)
          rw [HL.out] at h2 ⊢
          exact h2
        have HX := Lib.hid hX
        have HLen := Lib.hid hlen2
        clear hX hlen2
        have HS3 := Lib.hid (show SlcRow w3 g k cap cur from ⟨Blk.below HS.out.1 HB3.out, HS.out.2⟩)
        have HL3 := Lib.hid (HLb.out.below HB3.out)
        refine (replace_Row w3 g k cap a (a + 1) 1 _ _ cur [.int .i64 (p.1 : Nat), .int .i64 ((x - p.1 : Nat) : Int)] HS3.out (by omega) (by omega) (src_of_own HO1.out (by omega) hll.2) (by rfl) (by omega) (fun v hv => List.all_eq_true.1 (show ([.int .i64 (p.1 : Nat), .int .i64 ((x - p.1 : Nat) : Int)]).all (fun v => v.oneCell') = true from rfl) v hv) (by rw [HT.out]; exact rowsV_one _) (by omega)).mono ?_
        rintro e w4 ⟨g', cap', cur', rfl, hs4, ht4, hg4, ho4⟩
        rw [htot] at hs4 ht4 ⊢
        have hL4 := HL3.out.only ho4 (fun h => hne h)
        have HS4 := Lib.hid hs4
        have HT4 := Lib.hid ht4
        have HO4 := Lib.hid ho4
        have HL4 := Lib.hid hL4
        have l0 := hL4.cell 0
        have lf := hL4.free 0
        simp only [List.getElem?_cons_zero] at l0
        have hb3s := HB3.out.size
        have hLg' : L ≠ g' := by rcases hg4 with h | h <;> omega
        clear hs4 ht4 ho4 hL4
        go_wp2
        go_end0
        exact ⟨rfl, land_store HB3.out HO4.out HL4.out hLg' HLen.out HS4.out (HX.out _ HT4.out) hg4 hll.1⟩
  · by_cases h4 : x + n < p.1 + p.2
    · have h4' : 0 < p.1 + p.2 - x - n := by omega
      have HL := Lib.hid (show leftR p x n = [(x + n, p.1 + p.2 - x - n)] by unfold leftR; rw [if_neg h3, if_pos h4]; rfl)
      go_enter Tryz.func51, Tryz.ntmps51
      go_upto_if 21 with fail
      go_cut [9] (fun v wx => Hid (wx.ownsRow w.heap.size 45 2 v 0 []) ∧ Hid (Below w.heap.size w wx) ∧ Blk wx w.heap.size [.int .i64 (p.1 : Nat), .int .i64 (p.2 : Nat)] 45)
      case first =>
        go_wp2
        go_meet
        case rel => exact ⟨Lib.hid (World.ownsRow_nil _ _ _ _), hB1, Blk.new w #[.int .i64 p.1, .int .i64 p.2] 45⟩
      case rest =>
        obtain ⟨HO1, HB2, hRb⟩ := hcut
        have q0 := hRb.cell 0
        have q1 := hRb.cell 1
        simp only [List.getElem?_cons_zero, List.getElem?_cons_succ] at q0 q1
        have l0 := (HLb.out.below HB2.out).cell 0
        simp only [List.getElem?_cons_zero] at l0
        have hbs := HB2.out.size
        clear hRb
        go_wp2_with (first | (at_builtin; refine wpList_append_new rfl (.tmp 43) (.tmp 49) 89 rfl w.heap.size 45 i0 _ 2 16 Tryz.underlying89 hi hz0 hz1 hz2 rfl (by decide) u9 _ 1 _ rfl HO1.out rfl rfl (two_one _ _) (by omega) (by unfold maxLen; omega) (by first | omega | (simp; done) | (simp; omega)) ?_; intro v2 w3 hown2 hgr2 hnew2; have HB3 := Lib.hid (app_next HB2.out HO1.out hgr2); have HO2 := Lib.hid hown2; have l0 := (HLb.out.below HB3.out).cell 0; simp only [List.getElem?_cons_zero] at l0; clear hown2 hgr2 hnew2))
        obtain ⟨B2, c2, rfl⟩ := ownsRow_slice HO2.out
        obtain ⟨tot, htot⟩ : ∃ tot, a + 1 + (k - (a + 1)) = tot := ⟨_, rfl⟩
        have hlen2 : (A ++ leftR p x n ++ B).length = tot := by
          have h := HK.out
          have h' := HAa.out
          rw [HL.out]
          simp only [List.length_append, List.length_cons, List.length_nil] at h ⊢
          omega
        have hX : ∀ cur' : List Value, cur'.take (tot * 2) = cur.take (a * 2) ++ [.int .i64 ((x : Int) + (n : Int)), .int .i64 ((p.1 + p.2 - x - n : Nat) : Int)] ++ (cur.take (k * 2)).drop ((a + 1) * 2) → cur'.take (tot * 2) = rowsV (A ++ leftR p x n ++ B) := fun cur' h => by
          rw [h, ← HAa.out]
          have h2 := repl_rows (cur := cur) (A := A) (M := [p]) (M' := leftR p x n) (B := B) (n := k) (by have := HK.out; simpa using this) (by have := HT.out; simpa using this)
          rw [HL.out] at h2 ⊢
          exact h2
        have HX := Lib.hid hX
        have HLen := Lib.hid hlen2
        clear hX hlen2
        have HS3 := Lib.hid (show SlcRow w3 g k cap cur from ⟨Blk.below HS.out.1 HB3.out, HS.out.2⟩)
        have HL3 := Lib.hid (HLb.out.below HB3.out)
        refine (replace_Row w3 g k cap a (a + 1) 1 _ _ cur [.int .i64 ((x : Int) + (n : Int)), .int .i64 ((p.1 + p.2 - x - n : Nat) : Int)] HS3.out (by omega) (by omega) (src_of_own HO2.out (by omega) hll.2) (by rfl) (by omega) (fun v hv => List.all_eq_true.1 (show ([.int .i64 ((x : Int) + (n : Int)), .int .i64 ((p.1 + p.2 - x - n : Nat) : Int)]).all (fun v => v.oneCell') = true from rfl) v hv) (by rw [HT.out]; exact rowsV_one _) (by omega)).mono ?_
        rintro e w4 ⟨g', cap', cur', rfl, hs4, ht4, hg4, ho4⟩
        rw [htot] at hs4 ht4 ⊢
        have hL4 := HL3.out.only ho4 (fun h => hne h)
        have HS4 := Lib.hid hs4
        have HT4 := Lib.hid ht4
        have HO4 := Lib.hid ho4
        have HL4 := Lib.hid hL4
        have l0 := hL4.cell 0
        have lf := hL4.free 0
        simp only [List.getElem?_cons_zero] at l0
        have hb3s := HB3.out.size
        have hLg' : L ≠ g' := by rcases hg4 with h | h <;> omega
        clear hs4 ht4 ho4 hL4
        go_wp2
        go_end0
        exact ⟨rfl, land_store HB3.out HO4.out HL4.out hLg' HLen.out HS4.out (HX.out _ HT4.out) hg4 hll.1⟩
    · have h4' : ¬ 0 < p.1 + p.2 - x - n := by omega
      have HL := Lib.hid (show leftR p x n = [] by unfold leftR; rw [if_neg h3, if_neg h4]; rfl)
      go_enter Tryz.func51, Tryz.ntmps51
      go_upto_if 21 with fail
      go_cut [9] (fun v wx => Hid (wx.ownsRow w.heap.size 45 2 v 0 []) ∧ Hid (Below w.heap.size w wx) ∧ Blk wx w.heap.size [.int .i64 (p.1 : Nat), .int .i64 (p.2 : Nat)] 45)
      case first =>
        go_wp2
        go_meet
        case rel => exact ⟨Lib.hid (World.ownsRow_nil _ _ _ _), hB1, Blk.new w #[.int .i64 p.1, .int .i64 p.2] 45⟩
      case rest =>
        obtain ⟨HO1, HB2, hRb⟩ := hcut
        have q0 := hRb.cell 0
        have q1 := hRb.cell 1
        simp only [List.getElem?_cons_zero, List.getElem?_cons_succ] at q0 q1
        have l0 := (HLb.out.below HB2.out).cell 0
        simp only [List.getElem?_cons_zero] at l0
        have hbs := HB2.out.size
        clear hRb
        obtain ⟨w3, rfl⟩ : ∃ w3 : World, w3 = wc := ⟨_, rfl⟩
        have HB3 := HB2
        obtain ⟨B2, c2, rfl⟩ := ownsRow_slice HO1.out
        go_wp2_with fail
        obtain ⟨tot, htot⟩ : ∃ tot, a + 0 + (k - (a + 1)) = tot := ⟨_, rfl⟩
        have hlen2 : (A ++ leftR p x n ++ B).length = tot := by
          have h := HK.out
          have h' := HAa.out
          rw [HL.out]
          simp only [List.length_append, List.length_cons, List.length_nil] at h ⊢
          omega
        have hX : ∀ cur' : List Value, cur'.take (tot * 2) = cur.take (a * 2) ++ [] ++ (cur.take (k * 2)).drop ((a + 1) * 2) → cur'.take (tot * 2) = rowsV (A ++ leftR p x n ++ B) := fun cur' h => by
          rw [h, ← HAa.out]
          have h2 := repl_rows (cur := cur) (A := A) (M := [p]) (M' := leftR p x n) (B := B) (n := k) (by have := HK.out; simpa using this) (by have := HT.out; simpa using this)
          rw [HL.out] at h2 ⊢
          exact h2
        have HX := Lib.hid hX
        have HLen := Lib.hid hlen2
        clear hX hlen2
        have HS3 := Lib.hid (show SlcRow w3 g k cap cur from ⟨Blk.below HS.out.1 HB3.out, HS.out.2⟩)
        have HL3 := Lib.hid (HLb.out.below HB3.out)
        refine (replace_Row w3 g k cap a (a + 1) 0 _ _ cur [] HS3.out (by omega) (by omega) (.inl ⟨rfl, rfl⟩) (by rfl) (by omega) (fun v hv => List.all_eq_true.1 (show ([]).all (fun v => v.oneCell') = true from rfl) v hv) (by rw [HT.out]; exact rowsV_one _) (by omega)).mono ?_
        rintro e w4 ⟨g', cap', cur', rfl, hs4, ht4, hg4, ho4⟩
        rw [htot] at hs4 ht4 ⊢
        have hL4 := HL3.out.only ho4 (fun h => hne h)
        have HS4 := Lib.hid hs4
        have HT4 := Lib.hid ht4
        have HO4 := Lib.hid ho4
        have HL4 := Lib.hid hL4
        have l0 := hL4.cell 0
        have lf := hL4.free 0
        simp only [List.getElem?_cons_zero] at l0
        have hb3s := HB3.out.size
        have hLg' : L ≠ g' := by rcases hg4 with h | h <;> omega
        clear hs4 ht4 ho4 hL4
        go_wp2
        go_end0
        exact ⟨rfl, land_store HB3.out HO4.out HL4.out hLg' HLen.out HS4.out (HX.out _ HT4.out) hg4 hll.1⟩
end Go.Proofs.YtadbbknllakpcaaGreat.rn
