/- The walk of names.Put. -/
import Derived.Test.YtanfjiccilibcaaNmX
import Derived.Test.YtanfjiccilibcaaDagK
import Derived.Deep.LoopGhost
namespace Go.Proofs.Ytanfjiccilibcaa
open Go.RowKit
set_option linter.unusedVariables false

def nzs (zs : List Int) (a : Ent) (g : Nat → Bool) : List Int := zs ++ (if g 3 = true then oc.layL a.2 1 else []) ++ (if g 6 = true then oc.layL a.1.size 2 ++ bo a.1 else [])
def NPutJ (w : World) (X : Nat) (zs : List Int) (a : Ent) (g : Nat → Bool) (w' : World) : Prop :=
  Blk w' X [.string a.1, .int .i64 a.2] 47 ∧ Below w.heap.size w w' ∧ (g 6 = true → g 3 = true) ∧ WrAt w' w.heap.size w.heap.size (nzs zs a g)
theorem WrAt.le {w : World} {B W : Nat} {zs : List Int} (h : WrAt w B W zs) : B < w.heap.size := by
  obtain ⟨h0, v, h1, _⟩ := h
  exact Nat.lt_of_le_of_lt h0 h1.lt
theorem nzs_len (zs : List Int) (a : Ent) (g : Nat → Bool) (ha : a.1.size ≤ 32) : (nzs zs a g).length ≤ zs.length + 35 := by
  unfold nzs
  rw [List.length_append, List.length_append]
  split <;> split <;> simp [oc.layL_length, bo_len] <;> omega
set_option maxRecDepth 8000 in
set_option maxHeartbeats 8000000 in
theorem nput_calls (w : World) (A : Option Addr) (cap : Nat) (l : List Ent) (hL : RdAt w A l.length (namesV l)) (hd : Dir l) (hl : l.length ≤ 30) :
    Calls Try.prog 19 #[.slice A l.length cap] w fun e w' => ∃ v, e = .returned v ∧ w'.ownsRow w.heap.size 5 1 v (putN l).length (octV (putN l)) ∧ Below w.heap.size w w' := by
  have HL := Lib.hid hL
  have HD := Lib.hid hd
  have hpl := putN_len hd hl
  clear hL hd
  go_enter Try.func19, Try.ntmps19
  go_wp2_with fail
  refine (write_calls _).mono ?_
  rintro e w1 ⟨rfl, hw1, hb1⟩
  have HW1 := Lib.hid hw1
  have HB1 := Lib.hid hb1
  have hs1 := hb1.size
  clear hw1 hb1
  go_wp2_with fail
  refine (wnum_calls _ w.heap.size w.heap.size [] l.length 1 HW1.out (by omega) (by omega) (by simp) hs1).mono ?_
  rintro e w2 ⟨rfl, hw2, hb2⟩
  have HW2 := Lib.hid hw2
  have HB2 := Lib.hid (HB1.out.trans hb2)
  clear hw2 hb2 HW1 HB1 hs1
  go_wp2_with fail
  go_loopg [12, 5] l.length (fun q s12 s5 wx => ∃ j : Nat, q + j = l.length ∧ s12 = .int .i64 j ∧ Hid (WrAt wx w.heap.size w.heap.size (oc.layL l.length 1 ++ (l.take j).flatMap entO)) ∧ Hid (Below w.heap.size w wx))
  case atStart => exact ⟨0, by omega, rfl, by simpa using HW2, HB2⟩
  case round =>
    obtain ⟨j, hq, rfl, hw, hb⟩ := hrel
    by_cases hj : j < l.length
    · obtain ⟨a, ha⟩ : ∃ a, l[j]? = some a := ⟨_, List.getElem?_eq_getElem hj⟩
      obtain ⟨bb, o, rfl, hbb, r1, r2⟩ := (HL.out.below (hb.out.mono (Nat.le_refl _))).ent ha
      go_wp2_with fail
      have hm := HD.out.2.1 a (List.mem_of_getElem? ha)
      have HM := Lib.hid hm
      have HT := Lib.hid (take_snoc ha)
      have hX : w.heap.size < wr.heap.size := hw.out.le
      obtain ⟨zs, hzs⟩ : ∃ zs, oc.layL l.length 1 ++ (l.take j).flatMap entO = zs := ⟨_, rfl⟩
      have hzl : zs.length ≤ 2000 := by
        have h1 := flat_len (l := l.take j) fun x hx => (HD.out.2.1 x (List.mem_of_mem_take hx)).2.1
        have h2 : (l.take j).length ≤ 30 := by rw [List.length_take]; omega
        rw [← hzs, List.length_append, oc.layL_length]; omega
      have hb1 : Below wr.heap.size wr (wr.alloc (.cells #[.string a.1, .int .i64 a.2] 47)) := (Below.refl _ _).alloc (Nat.le_refl _) _
      rw [hzs] at hw
      have HW1 := Lib.hid (hw.out.below hb1)
      have HB1 := Lib.hid (bel_next hb.out hb1 (Nat.le_refl _))
      have HK := Lib.hid (Blk.new wr #[.string a.1, .int .i64 a.2] 47)
      have HZ := Lib.hid hzs
      clear hm ha hb1 hw hzs r1 r2
      refine wp_dag [(16, .pointer (some ⟨w.heap.size, 0, none⟩)), (17, .pointer (some ⟨wr.heap.size, 1, none⟩)), (18, .int .i64 a.2), (19, .pointer (some ⟨w.heap.size, 0, none⟩)), (20, .pointer (some ⟨wr.heap.size, 0, none⟩)), (21, .string a.1), (22, .pointer (some ⟨w.heap.size, 0, none⟩))] (NPutJ w wr.heap.size zs a) (by kernel_rfl) (by kernel_rfl) (by kernel_rfl) (by kernel_rfl) ⟨HK.out, HB1.out.drew, (fun h => by cases h), by simpa [nzs] using HW1.out.below (Below.refl _ _).drew⟩ ?_ ?_
      case refine_1 =>
        refine dag_cons (dag_val (v := .pointer (some ⟨w.heap.size, 0, none⟩)) (by kernel_rfl) (by kernel_rfl) (fun g0 w' h => by kernel_rfl) (fun g0 w' h => h)) ?_
        refine dag_cons (dag_val (v := .pointer (some ⟨wr.heap.size, 1, none⟩)) (by kernel_rfl) (by kernel_rfl) (fun g0 w' h => by kernel_rfl) (fun g0 w' h => h)) ?_
        refine dag_cons (dag_load (t := 3) (d := .int .i64) (x := .tmp 17) (p := ⟨wr.heap.size, 1, none⟩) (v := .int .i64 a.2) (by kernel_rfl) (by kernel_rfl) (by kernel_rfl) (by kernel_rfl) Try.underlying3 rfl (fun g0 w' h => h.1.cell 1) (fun g0 w' h => h)) ?_
        refine dag_cons (dag_call2 (f := 32) (args := #[.pointer (some ⟨w.heap.size, 0, none⟩), .int .i64 a.2, .int .i64 1]) (v := .pointer (some ⟨w.heap.size, 0, none⟩)) (by kernel_rfl) (by kernel_rfl) (fun w' => by kernel_rfl) (fun g0 w' hg hd h => ?_)) ?_
        case refine_1 =>
          have hg : g0 3 = false := hg
          obtain ⟨j1, j2, j3, j4⟩ := h
          have g6f : g0 6 = false := by
            cases h6 : g0 6
            · rfl
            · rw [j3 h6] at hg; cases hg
          have hal := HM.out
          refine (wnum_callsK w' w.heap.size w.heap.size _ a.2 1 j4 (by omega) (by omega) (by have := nzs_len zs a g0 (by omega); omega) (Nat.le_of_lt j4.le)).mono ?_
          rintro e w2 ⟨he, hw2, hb2, hk2⟩
          refine ⟨he, ?_, ?_, ?_, ?_⟩
          · exact hk2 _ _ _ j1 (by decide) (by omega)
          · exact j2.trans hb2
          · exact fun h => rfl
          · have e : nzs zs a (upd g0 3) = nzs zs a g0 ++ oc.layL a.2 1 := by simp [nzs, upd, hg, g6f]
            rw [e]; exact hw2
        refine dag_cons (dag_val (v := .pointer (some ⟨wr.heap.size, 0, none⟩)) (by kernel_rfl) (by kernel_rfl) (fun g0 w' h => by kernel_rfl) (fun g0 w' h => h)) ?_
        refine dag_cons (dag_load (t := 9) (d := .string) (x := .tmp 20) (p := ⟨wr.heap.size, 0, none⟩) (v := .string a.1) (by kernel_rfl) (by kernel_rfl) (by kernel_rfl) (by kernel_rfl) Try.underlying9 rfl (fun g0 w' h => h.1.cell 0) (fun g0 w' h => h)) ?_
        refine dag_cons (dag_call2 (f := 33) (args := #[.pointer (some ⟨w.heap.size, 0, none⟩), .string a.1]) (v := .pointer (some ⟨w.heap.size, 0, none⟩)) (by kernel_rfl) (by kernel_rfl) (fun w' => by kernel_rfl) (fun g0 w' hg hd h => ?_)) ?_
        case refine_1 =>
          have hg : g0 6 = false := hg
          have hdp : g0 3 = true := hd { on := 3, ground := Ground.data } (by simp) rfl
          obtain ⟨j1, j2, j3, j4⟩ := h
          have hal := HM.out
          refine (wtext_calls w' w.heap.size w.heap.size _ a.1 j4 (by omega) (by have := nzs_len zs a g0 (by omega); omega) (Nat.le_of_lt j4.le)).mono ?_
          rintro e w2 ⟨he, hw2, hb2, hk2⟩
          refine ⟨he, ?_, ?_, ?_, ?_⟩
          · exact hk2 _ _ _ j1 (by decide) (by omega)
          · exact j2.trans hb2
          · exact fun h => hdp
          · have e : nzs zs a (upd g0 6) = nzs zs a g0 ++ oc.layL a.1.size 2 ++ bo a.1 := by simp [nzs, upd, hg, hdp]
            rw [e]; exact hw2
        exact dag_nil
      case refine_2 =>
        rintro w5 ⟨j1, j2, _, j4⟩
        have HJ2 := Lib.hid j2
        have HJ4 := Lib.hid (show WrAt w5 w.heap.size w.heap.size (oc.layL l.length 1 ++ (l.take (j + 1)).flatMap entO) by
          rw [HT.out, List.flatMap_append, ← List.append_assoc, HZ.out]
          have e : nzs zs a (fun k => decide (k < 7)) = zs ++ [a].flatMap entO := by simp [nzs, entO]
          rw [← e]; exact j4)
        simp only [putAll, List.foldl_cons, List.foldl_nil]
        clear j1 j2 j4
        go_wp2
        go_roundg (l.length - (j + 1))
        case measure => omega
        case rel => exact ⟨j + 1, by omega, by go_num, HJ4, HJ2⟩
    · obtain rfl : j = l.length := by omega
      rw [List.take_length] at hw
      have hw2 : Hid (WrAt wr w.heap.size w.heap.size (putN l)) := hw
      clear hw
      go_wp2_with fail
      refine (bytes_calls _ w.heap.size w.heap.size _ hw2.out (by omega)).mono ?_
      rintro e w6 ⟨v, rfl, hown, hb6⟩
      have HO := Lib.hid (ownsRow_base hown hb.out.size)
      have HB6 := Lib.hid (bel_next hb.out hb6 (Nat.le_refl _))
      clear hown hb6
      go_wp2
      go_ret
      exact ⟨_, rfl, HO.out, HB6.out⟩
end Go.Proofs.Ytanfjiccilibcaa
