/- The walks of a span's octets: span.Put and the document's Put. -/
import Derived.Test.YtakcdkcikopoiaaSpO
import Derived.Test.YtakcdkcikopoiaaDagK
import Derived.Deep.LoopGhost
namespace Go.Proofs.Ytakcdkcikopoiaa
open Go.RowKit
set_option linter.unusedVariables false

/-- A span's octets. -/
def putO (pg ps cl : Int) (f : Nat → Bool) : List Int := oc.layL cl 1 ++ oc.layL pg 2 ++ oc.layL ps 2 ++ oc.layL (wrap64 (wd f 0)) 8
def zsP (cl pg ps : Int) (g : Nat → Bool) : List Int := (if g 3 = true then oc.layL cl 1 else []) ++ (if g 6 = true then oc.layL pg 2 else []) ++ (if g 9 = true then oc.layL ps 2 else [])
def PutJ (w w1 : World) (pg ps cl : Int) (A : Option Addr) (cap : Nat) (g : Nat → Bool) (w' : World) : Prop :=
  SpB w' w.heap.size pg ps cl A 1 cap ∧ Below w.heap.size w w' ∧ (g 6 = true → g 3 = true) ∧ (g 9 = true → g 6 = true) ∧ (g 3 = true → g 0 = true) ∧ w1.heap.size ≤ w'.heap.size ∧ (if g 0 = true then WrAt w' w1.heap.size w1.heap.size (zsP cl pg ps g) else w' = w1.drew)
theorem layL_len (n : Int) (m : Nat) : (oc.layL n m).length = m := oc.layL_length n m
theorem zsP_len (cl pg ps : Int) (g : Nat → Bool) : (zsP cl pg ps g).length ≤ 5 := by
  unfold zsP
  rw [List.length_append, List.length_append]
  split <;> split <;> split <;> simp [oc.layL_length]
set_option maxRecDepth 8000 in
set_option maxHeartbeats 8000000 in
theorem sput_calls (pg ps cl : Int) (A : Option Addr) (cap : Nat) (f : Nat → Bool) (w : World) (h1 : I64 pg) (h2 : I64 ps) (h3 : I64 cl) (h : WordsAt w A 1 f) :
    Calls Try.prog 24 #[spV pg ps cl A 1 cap] w fun e w' => ∃ v, e = .returned v ∧ w'.ownsRow w.heap.size 5 1 v (putO pg ps cl f).length (octV (putO pg ps cl f)) ∧ Below w.heap.size w w' := by
  obtain ⟨w1, hw1, hS, hB⟩ := one_span w pg ps cl A 1 cap
  have HS1 := Lib.hid hS
  have HB1 := Lib.hid hB
  have HW1 := Lib.hid (h.below hB)
  obtain ⟨bb, o, rfl, hbb, hcell⟩ := (h.1).resolve_left (by omega)
  have cw := hcell 0 _ (wdV_at 1 f 0 (by omega))
  have hl1 := hS.lt
  have HCw := Lib.hid cw
  clear hS hB h hcell cw
  unfold spV
  go_enter Try.func24, Try.ntmps24
  go_wp2_with fail
  clear hw1
  refine wp_dag [(6, .pointer (some ⟨w1.heap.size, 0, none⟩)), (7, .pointer (some ⟨w.heap.size, 2, none⟩)), (8, .int .i64 cl), (9, .pointer (some ⟨w1.heap.size, 0, none⟩)), (10, .pointer (some ⟨w.heap.size, 0, none⟩)), (11, .int .i64 pg), (12, .pointer (some ⟨w1.heap.size, 0, none⟩)), (13, .pointer (some ⟨w.heap.size, 1, none⟩)), (14, .int .i64 ps), (15, .pointer (some ⟨w1.heap.size, 0, none⟩)), (3, .pointer (some ⟨w1.heap.size, 0, none⟩))] (PutJ w w1 pg ps cl (some ⟨bb, o, none⟩) cap) (by kernel_rfl) (by kernel_rfl) (by kernel_rfl) (by kernel_rfl) ⟨HS1.out, HB1.out.drew, (fun h => by cases h), (fun h => by cases h), (fun h => by cases h), Nat.le_refl _, rfl⟩ ?_ ?_
  case refine_1 =>
    refine dag_cons (dag_call2 (f := 49) (args := #[]) (v := .pointer (some ⟨w1.heap.size, 0, none⟩)) (by kernel_rfl) (by kernel_rfl) (fun w' => by kernel_rfl) (fun g0 w' hg hd h => ?_)) ?_
    case refine_1 =>
      have hg : g0 0 = false := hg
      obtain ⟨j1, j2, j3, j4, j5, j6, j7⟩ := h
      have g3f : g0 3 = false := by
        cases h3 : g0 3
        · rfl
        · rw [j5 h3] at hg; cases hg
      have g6f : g0 6 = false := by
        cases h6 : g0 6
        · rfl
        · rw [j3 h6] at g3f; cases g3f
      have g9f : g0 9 = false := by
        cases h9 : g0 9
        · rfl
        · rw [j4 h9] at g6f; cases g6f
      rw [if_neg (by rw [hg]; decide)] at j7
      subst j7
      refine (write_calls w1.drew).mono ?_
      rintro e w2 ⟨he, hw2, hb2⟩
      refine ⟨he, ?_, ?_, ?_, ?_, ?_, ?_, ?_⟩
      · exact j1.below hb2
      · exact bel_next j2 hb2 (Nat.le_refl _)
      · exact fun h => j3 h
      · exact fun h => j4 h
      · exact fun h => rfl
      · exact hb2.size
      · rw [if_pos (show upd g0 0 0 = true from rfl)]
        have e : zsP cl pg ps (upd g0 0) = [] := by simp [zsP, upd, g3f, g6f, g9f]
        rw [e]; exact hw2
    refine dag_cons (dag_val (v := .pointer (some ⟨w.heap.size, 2, none⟩)) (by kernel_rfl) (by kernel_rfl) (fun g0 w' h => by kernel_rfl) (fun g0 w' h => h)) ?_
    refine dag_cons (dag_load (t := 3) (d := .int .i64) (x := .tmp 7) (p := ⟨w.heap.size, 2, none⟩) (v := .int .i64 cl) (by kernel_rfl) (by kernel_rfl) (by kernel_rfl) (by kernel_rfl) Try.underlying3 rfl (fun g0 w' h => h.1.cells.2.2.1) (fun g0 w' h => h)) ?_
    refine dag_cons (dag_call2 (f := 50) (args := #[.pointer (some ⟨w1.heap.size, 0, none⟩), .int .i64 cl, .int .i64 1]) (v := .pointer (some ⟨w1.heap.size, 0, none⟩)) (by kernel_rfl) (by kernel_rfl) (fun w' => by kernel_rfl) (fun g0 w' hg hd h => ?_)) ?_
    case refine_1 =>
      have hg : g0 3 = false := hg
      have hdp : g0 0 = true := hd { on := 0, ground := Ground.data } (by simp) rfl
      obtain ⟨j1, j2, j3, j4, j5, j6, j7⟩ := h
      have g0t : g0 0 = true := hdp
      have g6f : g0 6 = false := by
        cases h6 : g0 6
        · rfl
        · rw [j3 h6] at hg; cases hg
      have g9f : g0 9 = false := by
        cases h9 : g0 9
        · rfl
        · rw [j4 h9] at g6f; cases g6f
      rw [if_pos g0t] at j7
      refine (wnum_calls w' w1.heap.size w1.heap.size _ cl 1 j7 h3 (by omega) (by have := zsP_len cl pg ps g0; omega) j6).mono ?_
      rintro e w2 ⟨he, hw2, hb2⟩
      refine ⟨he, ?_, ?_, ?_, ?_, ?_, ?_, ?_⟩
      · exact Blk.of_heap j1 (hb2.block _ hl1)
      · exact j2.trans (hb2.mono (by omega))
      · exact fun h => rfl
      · exact fun h => j4 h
      · exact fun h => g0t
      · exact Nat.le_trans j6 hb2.size
      · rw [if_pos (show upd g0 3 0 = true from g0t)]
        have e : zsP cl pg ps (upd g0 3) = zsP cl pg ps g0 ++ oc.layL cl 1 := by simp [zsP, upd, hg, g6f, g9f]
        rw [e]; exact hw2
    refine dag_cons (dag_val (v := .pointer (some ⟨w.heap.size, 0, none⟩)) (by kernel_rfl) (by kernel_rfl) (fun g0 w' h => by kernel_rfl) (fun g0 w' h => h)) ?_
    refine dag_cons (dag_load (t := 3) (d := .int .i64) (x := .tmp 10) (p := ⟨w.heap.size, 0, none⟩) (v := .int .i64 pg) (by kernel_rfl) (by kernel_rfl) (by kernel_rfl) (by kernel_rfl) Try.underlying3 rfl (fun g0 w' h => h.1.cells.1) (fun g0 w' h => h)) ?_
    refine dag_cons (dag_call2 (f := 50) (args := #[.pointer (some ⟨w1.heap.size, 0, none⟩), .int .i64 pg, .int .i64 2]) (v := .pointer (some ⟨w1.heap.size, 0, none⟩)) (by kernel_rfl) (by kernel_rfl) (fun w' => by kernel_rfl) (fun g0 w' hg hd h => ?_)) ?_
    case refine_1 =>
      have hg : g0 6 = false := hg
      have hdp : g0 3 = true := hd { on := 3, ground := Ground.data } (by simp) rfl
      obtain ⟨j1, j2, j3, j4, j5, j6, j7⟩ := h
      have g0t : g0 0 = true := j5 hdp
      have g9f : g0 9 = false := by
        cases h9 : g0 9
        · rfl
        · rw [j4 h9] at hg; cases hg
      rw [if_pos g0t] at j7
      refine (wnum_calls w' w1.heap.size w1.heap.size _ pg 2 j7 h1 (by omega) (by have := zsP_len cl pg ps g0; omega) j6).mono ?_
      rintro e w2 ⟨he, hw2, hb2⟩
      refine ⟨he, ?_, ?_, ?_, ?_, ?_, ?_, ?_⟩
      · exact Blk.of_heap j1 (hb2.block _ hl1)
      · exact j2.trans (hb2.mono (by omega))
      · exact fun h => hdp
      · exact fun h => rfl
      · exact fun h => g0t
      · exact Nat.le_trans j6 hb2.size
      · rw [if_pos (show upd g0 6 0 = true from g0t)]
        have e : zsP cl pg ps (upd g0 6) = zsP cl pg ps g0 ++ oc.layL pg 2 := by simp [zsP, upd, hg, hdp, g9f]
        rw [e]; exact hw2
    refine dag_cons (dag_val (v := .pointer (some ⟨w.heap.size, 1, none⟩)) (by kernel_rfl) (by kernel_rfl) (fun g0 w' h => by kernel_rfl) (fun g0 w' h => h)) ?_
    refine dag_cons (dag_load (t := 3) (d := .int .i64) (x := .tmp 13) (p := ⟨w.heap.size, 1, none⟩) (v := .int .i64 ps) (by kernel_rfl) (by kernel_rfl) (by kernel_rfl) (by kernel_rfl) Try.underlying3 rfl (fun g0 w' h => h.1.cells.2.1) (fun g0 w' h => h)) ?_
    refine dag_cons (dag_call2 (f := 50) (args := #[.pointer (some ⟨w1.heap.size, 0, none⟩), .int .i64 ps, .int .i64 2]) (v := .pointer (some ⟨w1.heap.size, 0, none⟩)) (by kernel_rfl) (by kernel_rfl) (fun w' => by kernel_rfl) (fun g0 w' hg hd h => ?_)) ?_
    case refine_1 =>
      have hg : g0 9 = false := hg
      have hdp : g0 6 = true := hd { on := 6, ground := Ground.data } (by simp) rfl
      obtain ⟨j1, j2, j3, j4, j5, j6, j7⟩ := h
      have g0t : g0 0 = true := j5 (j3 hdp)
      rw [if_pos g0t] at j7
      refine (wnum_calls w' w1.heap.size w1.heap.size _ ps 2 j7 h2 (by omega) (by have := zsP_len cl pg ps g0; omega) j6).mono ?_
      rintro e w2 ⟨he, hw2, hb2⟩
      refine ⟨he, ?_, ?_, ?_, ?_, ?_, ?_, ?_⟩
      · exact Blk.of_heap j1 (hb2.block _ hl1)
      · exact j2.trans (hb2.mono (by omega))
      · exact fun h => j3 hdp
      · exact fun h => hdp
      · exact fun h => g0t
      · exact Nat.le_trans j6 hb2.size
      · rw [if_pos (show upd g0 9 0 = true from g0t)]
        have e : zsP cl pg ps (upd g0 9) = zsP cl pg ps g0 ++ oc.layL ps 2 := by simp [zsP, upd, hg, hdp, j3 hdp]
        rw [e]; exact hw2
    refine dag_cons (dag_val (v := .pointer (some ⟨w1.heap.size, 0, none⟩)) (by kernel_rfl) (by kernel_rfl) (fun g0 w' h => by kernel_rfl) (fun g0 w' h => h)) ?_
    exact dag_nil
  case refine_2 =>
    rintro w5 ⟨j1, j2, _, _, _, j6, j7⟩
    have j7 : WrAt w5 w1.heap.size w1.heap.size (oc.layL cl 1 ++ oc.layL pg 2 ++ oc.layL ps 2) := j7
    simp only [putAll, List.foldl_cons, List.foldl_nil]
    have HJ1 := Lib.hid j1
    have HJ2 := Lib.hid j2
    have HJ7 := Lib.hid j7
    obtain ⟨s0, s1, s2, s3⟩ := j1.cells
    have hWl : w.heap.size ≤ w1.heap.size := by omega
    have cx : ∀ w', Below w.heap.size w w' → w'.cell? ⟨bb, o, none⟩ = some (.int .u64 (wd f 0 : Nat)) := fun w' hb => (hb.cell (p := ⟨bb, o, none⟩) hbb).trans HCw.out
    have HCx := Lib.hid cx
    have HJ6 := Lib.hid j6
    clear j1 j2 j6 j7 cx
    go_wp2_with fail
    go_loopg [19, 5] 1 (fun q s19 s5 wx => (q = 1 ∧ s19 = .int .i64 0 ∧ Hid (WrAt wx w1.heap.size w1.heap.size (oc.layL cl 1 ++ oc.layL pg 2 ++ oc.layL ps 2) ∧ Below w.heap.size w wx ∧ w1.heap.size ≤ wx.heap.size)) ∨ (q = 0 ∧ s19 = .int .i64 1 ∧ Hid (WrAt wx w1.heap.size w1.heap.size (putO pg ps cl f) ∧ Below w.heap.size w wx ∧ w1.heap.size ≤ wx.heap.size)))
    case atStart => exact .inl ⟨rfl, rfl, Lib.hid ⟨HJ7.out, HJ2.out, HJ6.out⟩⟩
    case round =>
      rcases hrel with ⟨hq, rfl, hI⟩ | ⟨hq, rfl, hI⟩
      · have c0 := HCx.out _ hI.out.2.1
        have hr : -9223372036854775808 ≤ wrap64 ((wd f 0 : Nat) : Int) ∧ wrap64 ((wd f 0 : Nat) : Int) ≤ 9223372036854775807 := by unfold wrap64; omega
        go_wp2_with fail
        refine (wnum_calls _ w1.heap.size w1.heap.size _ _ 8 hI.out.1 hr (by omega) (by simp [oc.layL_length]) hI.out.2.2).mono ?_
        rintro e w6 ⟨rfl, hw6, hb6⟩
        have HN := Lib.hid (show WrAt w6 w1.heap.size w1.heap.size (putO pg ps cl f) ∧ Below w.heap.size w w6 ∧ w1.heap.size ≤ w6.heap.size from ⟨hw6, hI.out.2.1.trans (hb6.mono hWl), Nat.le_trans hI.out.2.2 hb6.size⟩)
        clear hw6 hb6 c0
        go_wp2
        go_roundg 0
        case measure => omega
        case rel => exact .inr ⟨rfl, by first | rfl | go_num, HN⟩
      · go_wp2_with fail
        refine (bytes_calls _ w1.heap.size w1.heap.size _ hI.out.1 (by simp [putO, oc.layL_length])).mono ?_
        rintro e w6 ⟨v, rfl, hown, hb6⟩
        have HO := Lib.hid (ownsRow_base hown hI.out.2.1.size)
        have HB6 := Lib.hid (bel_next hI.out.2.1 hb6 (Nat.le_refl _))
        clear hown hb6
        go_wp2
        go_ret
        exact ⟨_, rfl, HO.out, HB6.out⟩
end Go.Proofs.Ytakcdkcikopoiaa
