/- The walk of alloc's Count. -/
import Derived.Test.YtadbbknllakpcaaGreatHeapF
namespace Go.Proofs.YtadbbknllakpcaaGreat
open Go.RowKit Go.Maps
set_option linter.unusedVariables false

def keyL (s : Sp) : Lit := .int .i64 (s.pg : Int)
/-- The sum over those that were met. -/
def sumB (g : Sp → Nat) (left : Lit → Bool) : List Sp → Nat
  | [] => 0
  | s :: r => (if left (keyL s) then 0 else g s) + sumB g left r
theorem sumB_all {g : Sp → Nat} {left : Lit → Bool} : ∀ {S : List Sp}, (∀ s ∈ S, left (keyL s) = true) → sumB g left S = 0
  | [], _ => rfl
  | s :: r, h => by simp only [sumB, h s (by simp), if_true, sumB_all (S := r) (fun t ht => h t (List.mem_cons_of_mem _ ht))]
theorem sumB_none {g : Sp → Nat} {left : Lit → Bool} : ∀ {S : List Sp}, (∀ s ∈ S, left (keyL s) = false) → sumB g left S = (S.map g).sum
  | [], _ => rfl
  | s :: r, h => by
    simp only [sumB, h s (by simp), sumB_none (S := r) (fun t ht => h t (List.mem_cons_of_mem _ ht)), List.map_cons, List.sum_cons]
    rfl
theorem sumB_congr {g : Sp → Nat} {a b : Lit → Bool} : ∀ {S : List Sp}, (∀ s ∈ S, a (keyL s) = b (keyL s)) → sumB g a S = sumB g b S
  | [], _ => rfl
  | s :: r, h => by simp only [sumB, h s (by simp), sumB_congr (S := r) (fun t ht => h t (List.mem_cons_of_mem _ ht))]
theorem same_key (s t : Sp) : (keyL s).sameKey (keyL t) = decide (s.pg = t.pg) := by
  unfold keyL Lit.sameKey
  by_cases h : s.pg = t.pg
  · rw [h]; simp
  · rw [decide_eq_false h]
    simp
    omega
theorem sumB_hit {g : Sp → Nat} {left : Lit → Bool} {s : Sp} : ∀ {S : List Sp}, Rise (pagesS S) → s ∈ S → left (keyL s) = true → sumB g (fun z => left z && !z.sameKey (keyL s)) S = sumB g left S + g s
  | [], _, h, _ => by cases h
  | t :: r, hr, h, hl => by
    have hr2 : Rise (pagesS r) := hr.of_cons
    have hlt : ∀ u ∈ r, t.pg < u.pg := fun u hu => (List.pairwise_cons.1 hr).1 u.pg (mem_pages.2 ⟨u, hu, rfl⟩)
    rcases List.mem_cons.1 h with rfl | h2
    · have hc := sumB_congr (g := g) (a := fun z => left z && !z.sameKey (keyL s)) (b := left) (S := r) (fun u hu => by
        have := hlt u hu
        simp only [same_key, decide_eq_false (show ¬ u.pg = s.pg by omega), Bool.not_false, Bool.and_true])
      simp only [sumB, hc, same_key, hl, decide_true, Bool.not_true, Bool.and_false, if_true, Bool.false_eq_true, if_false]
      omega
    · have hne := hlt s h2
      have ih := sumB_hit (g := g) hr2 h2 hl
      simp only [sumB, ih, same_key, decide_eq_false (show ¬ t.pg = s.pg by omega), Bool.not_false, Bool.and_true]
      omega
def cntAll (S : List Sp) : Nat := (S.map (·.cnt)).sum
def octAll (S : List Sp) : Nat := (S.map fun s => s.cnt * s.siz).sum
theorem sumB_le {g : Sp → Nat} {left : Lit → Bool} {M : Nat} : ∀ {S : List Sp}, (∀ s ∈ S, g s ≤ M) → sumB g left S ≤ S.length * M
  | [], _ => by simp [sumB]
  | s :: r, h => by
    have h1 := h s (by simp)
    have h2 := sumB_le (left := left) (S := r) (g := g) (M := M) (fun t ht => h t (List.mem_cons_of_mem _ ht))
    simp only [sumB, List.length_cons, Nat.add_mul, Nat.one_mul]
    split <;> omega
theorem cnt_le {s : Sp} : s.cnt ≤ s.per := cntF_le s.f s.per
theorem siz_big {s : Sp} (h : s.ok) (hc : s.cl = 255) : (s.siz : Int) = (s.ps : Int) * 512 := by
  have h1 := (Good.size h).1
  have h2 := h.ps1
  unfold sizeS at h1
  rw [if_pos hc, IntWalk.wrap64_in _ (by omega)] at h1
  exact h1.symm
theorem siz_cls {s : Sp} (h : s.ok) (hc : s.cl ≠ 255) : (s.siz : Int) = sizeL s.cl := by
  have h1 := (Good.size h).1
  unfold sizeS at h1
  rw [if_neg hc] at h1
  exact h1.symm
theorem hit_entry {w : World} {c : HC} {n : Nat} {S : List Sp} {D : DataW Value} {x : Int} {v : Value} {kl : Lit} {y : DataW Value × List MemPlace} (hC : Core w c n (pagesS S) (partS S) S) (hT : Tells D c.m1) (hk : keyOf Tryz.prog 3 (.int .i64 x) = some kl) (hy : asIs v = some y) (hat : ∀ zd, D.atKey kl zd = y.1) :
    ∃ s ∈ S, (s.pg : Int) = x ∧ kl = keyL s ∧ ∃ A cap, v = s.v A cap ∧ WordsAt w A s.len s.f := by
  obtain ⟨x2, h1, h2, hwf⟩ := keyOf_int_inv Tryz.underlying3 hk
  cases h1
  subst h2
  cases hy
  have h3 : c.m1 x = some v := by
    have e1 := hT.2 x hwf (.lit (.bool true))
    have e2 := hT.2 x hwf (.lit (.bool false))
    rw [hat] at e1 e2
    cases hm : c.m1 x with
    | none => rw [hm] at e1 e2; simp at e1
    | some u => rw [hm] at e1; simp at e1; rw [e1]
  obtain ⟨s, hs, hx⟩ := hC.only x v h3
  obtain ⟨_, A, cap, h4, h5, _⟩ := hC.has s hs
  rw [hx, h3] at h4
  cases h4
  exact ⟨s, hs, hx, by unfold keyL; rw [hx], A, cap, rfl, h5⟩
set_option maxRecDepth 8000 in
set_option maxHeartbeats 8000000 in
theorem count17_calls (w : World) (H L n : Nat) (S : List Sp) (l : List (Nat × Nat)) (F : Nat → Prop) (h : HeapAt w H L n S l F) :
    Calls Tryz.prog 14 #[.pointer (some ⟨H, 0, none⟩)] w fun e w' => e = .returned (.tuple #[.int .i64 (cntAll S : Nat), .int .i64 (octAll S : Nat)]) ∧ Below w.heap.size w w' := by
  obtain ⟨c, g, cp, rfl, rfl, hh⟩ := h
  have HC := Lib.hid hh
  obtain ⟨D, hown, hT⟩ := hh.core.mp1
  have HT := Lib.hid hT
  have h1 := hh.core.blk.cell 1
  simp only [List.getElem?_cons_succ, List.getElem?_cons_zero] at h1
  have HOw := Lib.hid hown
  have hlen := hh.inv.len
  have hcb : ∀ s ∈ S, s.cnt ≤ 32 := fun s hs => by have := cnt_le (s := s); have := (hh.inv.1 s hs).1.size; omega
  have hob : ∀ s ∈ S, s.cnt * s.siz ≤ 67108864 := fun s hs => by
    have h1 := hcb s hs
    have h2 := (hh.inv.1 s hs).1.size
    calc s.cnt * s.siz ≤ 32 * 2097152 := Nat.mul_le_mul h1 h2.2.1
      _ = 67108864 := rfl
  have HCb := Lib.hid hcb
  have HOb := Lib.hid hob
  have hall : ∀ s ∈ S, has D (keyL s) = true := fun s hs => by
    obtain ⟨_, A, cap, h4, _⟩ := hh.core.has s hs
    have hp := (hh.inv.1 s hs).1.ps1
    have := hT.2 (s.pg : Int) (WalkArith.wf_i64 (by omega))
    rw [h4] at this
    exact has_true_of_atKey (y := .held (s.v A cap)) (fun z => this z)
  have HAll := Lib.hid hall
  clear hh hown hT hcb hob hall
  go_enter Tryz.func14, Tryz.ntmps14
  go_wp2_with (at_range; refine wpList_range_own _ rfl (.tmp 14) 58 rfl 3 27 keyI Tryz.underlying58 asIs c.r1 n D rfl HOw.out ?_; intro w0 hrg0 hg0 hs0)
  go_frame
  have HR0 := Lib.hid hrg0
  have HB0 := Lib.hid (show Below w.heap.size w w0 from (Below.refl _ w).grown hg0 (Nat.le_refl _) (fun k hk => by cases hk))
  clear hrg0 hg0 hs0 h1
  go_loopg [4, 5] (size D) (fun q s4 s5 wr => ∃ left, Hid (wr.ranges Tryz.prog 3 asIs c.r1 w.heap.size n D left q) ∧ s4 = .int .i64 (sumB (·.cnt) left S : Nat) ∧ s5 = .int .i64 (sumB (fun s => s.cnt * s.siz) left S : Nat) ∧ Hid (Below w.heap.size w wr))
  case atStart => exact ⟨has D, HR0, by rw [sumB_all HAll.out]; rfl, by rw [sumB_all HAll.out]; rfl, HB0⟩
  case round =>
    obtain ⟨left, hrg, rfl, rfl, hb⟩ := hrel
    have b1 := sumB_le (left := left) (g := fun x => x.cnt) HCb.out
    have b2 := sumB_le (left := left) (g := fun s => s.cnt * s.siz) HOb.out
    go_wp2_with (at_next; refine wpList_next_ranges _ rfl (.tmp 15) rfl 3 keyI asIs (fun x : Int => .int .i64 x) (fun v : Value => v) (fun key kl hk => by obtain ⟨x, h, _⟩ := keyOf_int_inv Tryz.underlying3 hk; exact ⟨x, h⟩) (fun v y _ => ⟨v, rfl⟩) c.r1 w.heap.size n D left gk rfl hrg.out ?_ ?_)
    · intro _ hl0
      have e1 := sumB_none (g := (·.cnt)) (S := S) (fun s _ => hl0 (keyL s))
      have e2 := sumB_none (g := fun s => s.cnt * s.siz) (S := S) (fun s _ => hl0 (keyL s))
      have HE := Lib.hid (And.intro e1 e2)
      clear e1 e2 b1 b2
      go_wp2
      go_ret2
      exact ⟨by rw [HE.out.1, HE.out.2]; rfl, hb.out⟩
    · intro x v kl y1 y2 w1 cnt1 hk hl hy hat hrg1 hlt hg1 hs1 hen
      have hB1 : Below w.heap.size w w1 := hb.out.grown hg1 hb.out.size (fun k hk => by cases hk; exact Nat.le_refl _)
      obtain ⟨s, hs, rfl, rfl, A, cap, rfl, hW⟩ := hit_entry (HC.out.core.below hB1) HT.out hk (y := (y1, y2)) hy hat
      have hok := (HC.out.inv.1 s hs).1
      have e1 := sumB_hit (g := (·.cnt)) HC.out.inv.rise hs hl
      have e2 := sumB_hit (g := fun s => s.cnt * s.siz) HC.out.inv.rise hs hl
      have hc1 := HCb.out s hs
      have hc2 := HOb.out s hs
      have HE := Lib.hid (And.intro e1 e2)
      have HRg := Lib.hid hrg1
      have HB1 := Lib.hid hB1
      have HOk := Lib.hid hok
      have HLt := Lib.hid hlt
      obtain ⟨w2, hw2, hX2, hB2⟩ := one_span w1 s.pg s.ps s.cl A s.len cap
      have HB2 := Lib.hid (bel_next hB1 hB2 (Nat.le_refl _))
      have HBr2 := Lib.hid hB2
      have HW2 := Lib.hid (hW.below hB2)
      have HX2 := Lib.hid hX2
      obtain ⟨s0, s1, s2, s3⟩ := hX2.cells
      clear hk hl hy hat hrg1 hlt hg1 hs1 hB1 hs hW hok e1 e2 hX2 hB2 hrg
      unfold Sp.v spV at hen
      go_wp2_with fail
      refine (count15_calls s.pg s.ps s.cl A s.len cap s.f w2 HOk.out HW2.out).mono ?_
      rintro e w3 ⟨rfl, hB3⟩
      have HX3 := Lib.hid (SpB.below HX2.out hB3)
      have HB3 := Lib.hid (bel_next HB2.out hB3 (Nat.le_refl _))
      have HRg3 := Lib.hid ((HRg.out.kept (w' := w2) (row := none) (by rw [← hw2]; exact World.grownBy_alloc w1 _ none) (by simp) (by simp)).kept (w' := w3) (row := none) ⟨hB3.os, hB3.tape, hB3.output, hB3.size, fun i hi _ => hB3.block i hi⟩ (by simp) (by simp))
      obtain ⟨k, hk⟩ : ∃ k, s.cnt = k := ⟨_, rfl⟩
      rw [show cntF s.f (perN s.cl) = k from hk]
      rw [hk] at hc1 hc2
      obtain ⟨t0, t1, t2, t3⟩ := HX3.out.cells
      have HK := Lib.hid hk
      clear hB3 hk s0 s1 s2 s3 hw2 hen
      go_wp2_with fail
      refine (size_calls s.cl _ (by have := Good.cls HOk.out; omega) (by have := Good.cls HOk.out; omega)).mono ?_
      rintro e w4 ⟨rfl, rfl⟩
      obtain ⟨z, hz⟩ : ∃ z, s.siz = z := ⟨_, rfl⟩
      rw [hz] at hc2
      have HZ := Lib.hid hz
      have b3 : ((k * z : Nat) : Int) = (k : Int) * (z : Int) := by push_cast; rfl
      have n1 : wrap64 ((k : Int) * (z : Int)) = ((k * z : Nat) : Int) := by rw [← b3]; exact IntWalk.wrap64_in _ (by omega)
      have n2 : wrap64 (((sumB (fun x => x.cnt) left S : Nat) : Int) + (k : Int)) = ((sumB (fun x => x.cnt) left S + k : Nat) : Int) := by rw [IntWalk.wrap64_in _ (by omega)]; push_cast; rfl
      have n3 : wrap64 (((sumB (fun s => s.cnt * s.siz) left S : Nat) : Int) + (k : Int) * (z : Int)) = ((sumB (fun s => s.cnt * s.siz) left S + k * z : Nat) : Int) := by rw [← b3, IntWalk.wrap64_in _ (by omega)]; push_cast; rfl
      have N2 := Lib.hid n2
      have N3 := Lib.hid n3
      clear n2 n3
      have n4 : wrap64 (z : Int) = (z : Int) := by
        have := HOk.out.size
        rw [HZ.out] at this
        exact IntWalk.wrap64_in _ (by omega)
      clear b1 b2 b3 hc1 hc2
      by_cases hcl : s.cl = 255
      · have d1 : (s.cl == 255) = true := by rw [hcl]; rfl
        have hsz : (s.ps : Int) * 512 = (z : Int) := by rw [← HZ.out]; exact (siz_big HOk.out hcl).symm
        go_wp2
        go_roundg cnt1
        case measure => exact HLt.out
        case rel => exact ⟨_, HRg3, by rw [HE.out.1, HK.out, ← N2.out], by rw [HE.out.2, HK.out, HZ.out, ← N3.out], HB3⟩
      · have d1 : (s.cl == 255) = false := by rw [beq_eq_false_iff_ne]; exact hcl
        have hsz : sizeL s.cl = (z : Int) := by rw [← HZ.out]; exact (siz_cls HOk.out hcl).symm
        rw [hsz]
        go_wp2
        go_roundg cnt1
        case measure => exact HLt.out
        case rel => exact ⟨_, HRg3, by rw [HE.out.1, HK.out, ← N2.out], by rw [HE.out.2, HK.out, HZ.out, ← N3.out], HB3⟩
end Go.Proofs.YtadbbknllakpcaaGreat
