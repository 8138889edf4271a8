/- The walks through package pack: what is written. -/
import Derived.Test.YtanfjiccilibcaaOct
import Derived.Test.YtanfjiccilibcaaApp
import Derived.Test.YtanfjiccilibcaaMem
import Derived.Test.YtanfjiccilibcaaTail
import Derived.Test.YtanfjiccilibcaaStep
import Derived.Test.YtanfjiccilibcaaClU8
namespace Go.Proofs.Ytanfjiccilibcaa
open Go.RowKit
set_option linter.unusedVariables false

theorem own_only {w w' : World} {base size n : Nat} {e : TypeId} {xs : List Value} {v : Value} {S : Nat → Prop} (h : w.ownsRow base e size v n xs) (o : Only S w w') (hS : ∀ k, v.ownBlock = some k → ¬ S k) : w'.ownsRow base e size v n xs := by
  refine ⟨h.1, ?_⟩
  rcases h.2 with h2 | ⟨g, cap, cur, rfl, hg, hh, r⟩
  · exact .inl h2
  · exact .inr ⟨g, cap, cur, rfl, hg, (o.block g (Array.getElem?_eq_some_iff.1 hh).1 (hS g rfl)).trans hh, r⟩
theorem own_apart {w : World} {B n size R : Nat} {e t : TypeId} {v : Value} {xs cs : List Value} (h : w.ownsRow B e size v n xs) (hb : Blk w R cs t) (ht : t ≠ e) : v.ownBlock ≠ some R := by
  intro ho
  rcases h.2 with ⟨h1, _⟩ | ⟨g, cap, cur, rfl, hg, hh, _⟩
  · rw [h1] at ho; cases ho
  · simp only [Value.ownBlock, Option.some.injEq] at ho
    subst ho
    unfold Blk at hb
    rw [hh] at hb
    simp at hb
    exact ht hb.2.symm
theorem keep_blk {w w5 w6 : World} {B n X W : Nat} {v v2 : Value} {xs cs : List Value} {t : TypeId} (hX : Blk w X cs t) (ht : t ≠ 5) (hXW : X ≠ W) (hb5 : Below w.heap.size w w5) (hown : w.ownsRow B 5 1 v n xs) (hgr : w5.grownBy w6 v.ownBlock) : Blk (w6.setCell ⟨W, 0, none⟩ v2) X cs t :=
  ((hX.below hb5).of_heap (hgr.block X (hX.below hb5).lt (fun h => own_apart hown hX ht h.symm))).set_other hXW _ _
def octV (zs : List Int) : List Value := zs.map (.int .u8)
theorem octV_one (zs : List Int) : ∀ v ∈ octV zs, v.oneCell' = true := fun v hv => by obtain ⟨z, _, rfl⟩ := List.mem_map.1 hv; rfl
theorem octV_append (a b : List Int) : octV (a ++ b) = octV a ++ octV b := List.map_append
/-- What is being written. -/
def WrAt (w : World) (B W : Nat) (zs : List Int) : Prop :=
  B ≤ W ∧ ∃ v, Blk w W [v] 77 ∧ w.ownsRow B 5 1 v zs.length (octV zs) ∧ v.ownBlock ≠ some W
theorem WrAt.below {w w' : World} {B W : Nat} {zs : List Int} (h : WrAt w B W zs) (hb : Below w.heap.size w w') : WrAt w' B W zs := by
  obtain ⟨h0, v, h1, h2, h3⟩ := h
  exact ⟨h0, v, h1.below hb, ownsRow_below h2 hb, h3⟩
theorem write_calls (w : World) : Calls Try.prog 31 #[] w fun e w' => e = .returned (.pointer (some ⟨w.heap.size, 0, none⟩)) ∧ WrAt w' w.heap.size w.heap.size [] ∧ Below w.heap.size w w' := by
  go_enter Try.func31, Try.ntmps31
  go_wp2
  go_ret
  exact ⟨rfl, ⟨Nat.le_refl _, _, Blk.new w _ _, World.ownsRow_nil _ _ _ _, by simp [Value.ownBlock]⟩, (Below.refl _ _).alloc (Nat.le_refl _) _⟩
theorem store_wr {w w' : World} {B W n : Nat} {v v' : Value} {zs ys : List Int} (hBW : B ≤ W) (hW : Blk w W [v] 77) (ho : v.ownBlock ≠ some W) (hnew : NewRow w.heap.size v v') (hgr : w.grownBy w' v.ownBlock)
    (hown : w'.ownsRow B 5 1 v' n (octV zs ++ octV ys)) : WrAt (w'.setCell ⟨W, 0, none⟩ v') B W (zs ++ ys) := by
  have hWl := hW.lt
  have hW2 : Blk w' W [v] 77 := hW.of_heap (hgr.block W hWl (fun h => ho h.symm))
  have hne : v'.ownBlock ≠ some W := by
    rcases hnew with h | ⟨g, h, hg⟩
    · rw [h]; exact ho
    · rw [h]; intro e; cases e; omega
  have hl := hown.1
  refine ⟨hBW, v', ?_, ?_, hne⟩
  · have := hW2.set 0 v'
    simpa using this
  · have h2 := own_only hown (Only.set (S := (· = W)) (Only.refl _ w') (p := ⟨W, 0, none⟩) (fun _ => rfl) v') (fun k hk e => hne (by rw [hk, e]))
    rw [octV_append]
    have e : n = (zs ++ ys).length := by rw [← octV_append] at hl; simp [octV] at hl; simp; omega
    rw [← e]
    exact h2
set_option maxHeartbeats 2000000 in
theorem wnum_callsK (w : World) (B W : Nat) (zs : List Int) (n : Int) (m : Nat) (h : WrAt w B W zs) (hn : -9223372036854775808 ≤ n ∧ n ≤ 9223372036854775807) (hm : m ≤ 8) (hl : zs.length ≤ 100000) (hB : B ≤ w.heap.size) :
    Calls Try.prog 32 #[.pointer (some ⟨W, 0, none⟩), .int .i64 n, .int .i64 m] w fun e w' => e = .returned (.pointer (some ⟨W, 0, none⟩)) ∧ WrAt w' B W (zs ++ oc.layL n m) ∧ Below B w w' ∧ ∀ X cs t, Blk w X cs t → t ≠ 5 → X ≠ W → Blk w' X cs t := by
  obtain ⟨i0, hi, hz0, hz1, hz2⟩ := info_parts Try.info_clone_U8
  obtain ⟨hBW, v, hW, hown, hne⟩ := h
  have HW := Lib.hid hW
  have HO := Lib.hid hown
  have c0 : w.drew.cell? ⟨W, 0, none⟩ = some v := hW.cell 0
  have hcm : (oc.cnt m 8).toNat = m := by unfold oc.cnt; omega
  clear hW hown
  go_enter Try.func32, Try.ntmps32
  go_wp2_with fail
  refine wp_region_any (by kernel_rfl) ?_
  try (change wpAny _ _ _ _ _ _ _ (World.drew _))
  refine wpAny_take (i := 0) (v := .pointer (some ⟨W, 0, none⟩)) rfl (by kernel_rfl) (by kernel_rfl) (by kernel_rfl) (fun _ _ _ h => h) (Or.inl ⟨by kernel_rfl, by intro w; go_simp⟩) ?_
  refine wpAny_take (i := 1) (v := .pointer (some ⟨W, 0, none⟩)) rfl (by kernel_rfl) (by kernel_rfl) (by kernel_rfl) (fun _ _ _ h => h) (Or.inl ⟨by kernel_rfl, by intro w; go_simp⟩) ?_
  refine wpAny_take (i := 2) (v := .pointer (some ⟨W, 0, none⟩)) rfl (by kernel_rfl) (by kernel_rfl) (by kernel_rfl) (fun _ _ _ h => h) (Or.inl ⟨by kernel_rfl, by intro w; go_simp⟩) ?_
  refine wpAny_take (i := 3) (v := .pointer (some ⟨W, 0, none⟩)) rfl (by kernel_rfl) (by kernel_rfl) (by kernel_rfl) (fun _ _ _ h => h) (Or.inl ⟨by kernel_rfl, by intro w; go_simp⟩) ?_
  refine wpAny_take (i := 5) (v := .int .i64 n) rfl (by kernel_rfl) (by kernel_rfl) (by kernel_rfl) (fun _ _ _ h => h) (Or.inl ⟨by kernel_rfl, by intro w; go_simp⟩) ?_
  refine wpAny_take (i := 6) (v := .int .i64 m) rfl (by kernel_rfl) (by kernel_rfl) (by kernel_rfl) (fun _ _ _ h => h) (Or.inl ⟨by kernel_rfl, by intro w; go_simp⟩) ?_
  refine wpAny_ready (rs := [4, 7]) (by kernel_rfl) (by simp) ?_
  refine AllReady.cons rfl (fun K hK => ?_) (AllReady.cons rfl (fun K hK => ?_) AllReady.nil)
  case' refine_2 =>
    go_simp
    go_wp2_with (go_at_call 44; refine (oc.lay_calls n m _ hn.2 hn.1).mono ?_; rintro e w5 ⟨v1, rfl, hown1, hb⟩; rw [hcm] at hown1; obtain ⟨A1, c1', rfl⟩ := ownsRow_slice hown1; have HO1 := Lib.hid hown1; have HB5 := Lib.hid (show Below w.heap.size w w5 from ((Below.refl _ w).drew).trans hb); have c1 := (HB5.out.cell (p := ⟨W, 0, none⟩) HW.out.lt).trans c0; clear hown1 hb)
    try clear hK K
    refine wpAny_ready (rs := [4]) (by kernel_rfl) (by simp) ?_
    refine AllReady.cons rfl (fun K hK => ?_) AllReady.nil
    go_simp
    refine hK _ _ ?_
    clear hK K
  case' refine_1 =>
    go_simp
    refine hK _ _ ?_
    clear hK K
    refine wpAny_ready (rs := [7]) (by kernel_rfl) (by simp) ?_
    refine AllReady.cons rfl (fun K hK => ?_) AllReady.nil
    go_simp
    go_wp2_with (go_at_call 44; refine (oc.lay_calls n m _ hn.2 hn.1).mono ?_; rintro e w5 ⟨v1, rfl, hown1, hb⟩; rw [hcm] at hown1; obtain ⟨A1, c1', rfl⟩ := ownsRow_slice hown1; have HO1 := Lib.hid hown1; have HB5 := Lib.hid (show Below w.heap.size w w5 from ((Below.refl _ w).drew).trans hb); have c1 := (HB5.out.cell (p := ⟨W, 0, none⟩) HW.out.lt).trans c0; clear hown1 hb)
    try clear hK K
  all_goals
    refine wpAny_ready (rs := [8]) (by kernel_rfl) (by simp) ?_
    refine AllReady.cons rfl (fun K hK => ?_) AllReady.nil
    refine step_append_rd rfl (.tmp 11) (.tmp 14) 27 rfl B 5 i0 _ 1 1 Try.underlying27 hi hz0 hz1 hz2 rfl (by decide) v zs.length (octV zs) rfl (ownsRow_below HO.out HB5.out) A1 m c1' rfl (octV (oc.layL n m)) (by simp [octV, oc.layL_length]) (RdAt.of_own HO1.out) (octV_one _) (by omega) (by unfold maxLen; omega) (by have := HB5.out.size; omega) ?_
    intro v2 w6 hown2 hgr2 hnew2
    refine hK _ _ ?_
    obtain ⟨A2, c2, rfl⟩ := ownsRow_slice hown2
    have HWr := Lib.hid (store_wr hBW (HW.out.below HB5.out) hne hnew2 hgr2 hown2)
    have HB6 := Lib.hid ((HB5.out.mono hB).grown hgr2 (Nat.le_trans hB HB5.out.size) (fun k hk => (HO.out.lt k hk).1))
    have HBs := Lib.hid (HB6.out.setCell (p := ⟨W, 0, none⟩) hBW (.slice A2 (zs.length + m) c2))
    have HKp := Lib.hid (show ∀ X cs t, Blk w X cs t → t ≠ 5 → X ≠ W → Blk (w6.setCell ⟨W, 0, none⟩ (.slice A2 (zs.length + m) c2)) X cs t from fun X cs t hX ht hXW => keep_blk hX ht hXW HB5.out HO.out hgr2)
    have hW6 := (HW.out.below HB5.out).of_heap (hgr2.block W ((HW.out.below HB5.out).lt) (fun h => hne h.symm))
    have k1 := hW6.free 0
    have k2 : w6.cell? ⟨W, 0, none⟩ = some v := hW6.cell 0
    clear hW6
    clear hK K hown2 hgr2 hnew2
    refine wpAny_ready (rs := [9]) (by kernel_rfl) (by simp) ?_
    refine AllReady.cons rfl (fun K hK => ?_) AllReady.nil
    go_simp
    refine hK _ _ ?_
    clear hK K
    refine wpAny_ready (rs := [10]) (by kernel_rfl) (by simp) ?_
    refine AllReady.cons rfl (fun K hK => ?_) AllReady.nil
    go_simp
    refine hK _ _ ?_
    clear hK K
    refine wpAny_ready (rs := [11]) (by kernel_rfl) (by simp) ?_
    refine AllReady.cons rfl (fun K hK => ?_) AllReady.nil
    go_simp
    refine hK _ _ ?_
    clear hK K
    refine wpAny_done (by kernel_rfl) ?_ _
    go_wp2
    go_ret
    exact ⟨rfl, HWr.out, HBs.out, HKp.out⟩
theorem wnum_calls (w : World) (B W : Nat) (zs : List Int) (n : Int) (m : Nat) (h : WrAt w B W zs) (hn : -9223372036854775808 ≤ n ∧ n ≤ 9223372036854775807) (hm : m ≤ 8) (hl : zs.length ≤ 100000) (hB : B ≤ w.heap.size) :
    Calls Try.prog 32 #[.pointer (some ⟨W, 0, none⟩), .int .i64 n, .int .i64 m] w fun e w' => e = .returned (.pointer (some ⟨W, 0, none⟩)) ∧ WrAt w' B W (zs ++ oc.layL n m) ∧ Below B w w' :=
  (wnum_callsK w B W zs n m h hn hm hl hB).mono fun e w' h => ⟨h.1, h.2.1, h.2.2.1⟩
set_option maxHeartbeats 1000000 in
theorem bytes_calls (w : World) (B W : Nat) (zs : List Int) (h : WrAt w B W zs) (hl : zs.length ≤ 100000) :
    Calls Try.prog 34 #[.pointer (some ⟨W, 0, none⟩)] w fun e w' => ∃ v, e = .returned v ∧ w'.ownsRow w.heap.size 5 1 v zs.length (octV zs) ∧ Below w.heap.size w w' := by
  obtain ⟨hBW, v, hW, hown, hne⟩ := h
  obtain ⟨A1, c1, rfl⟩ := ownsRow_slice hown
  have HR := Lib.hid (RdAt.of_own hown)
  have c0 : w.cell? ⟨W, 0, none⟩ = some (.slice A1 zs.length c1) := hW.cell 0
  clear hW hown
  go_enter Try.func34, Try.ntmps34
  go_wp2_with fail
  refine (clone_U8 _ A1 zs.length c1 (octV zs) (by simp [octV]) HR.out (octV_one _) (by omega)).mono ?_
  rintro e w5 ⟨v, rfl, hown, _, hb⟩
  have HO := Lib.hid hown
  have HB := Lib.hid hb
  clear hown hb
  go_wp2
  go_ret
  exact ⟨_, rfl, HO.out, HB.out⟩
end Go.Proofs.Ytanfjiccilibcaa
