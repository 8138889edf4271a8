/- The walk of the document's Put of a directory. -/
import Derived.Test.YtanfjiccilibcaaNmX
import Derived.Test.YtanfjiccilibcaaDagL
import Derived.Deep.LoopGhost
namespace Go.Proofs.Ytanfjiccilibcaa
open Go.RowKit
set_option linter.unusedVariables false

theorem run_str_blk {w : World} {b cap : Nat} {zs : List Int} {t : TypeId} (h : Blk w b (octV zs) t) : (convert 27 9 (.slice (some ⟨b, 0, none⟩) zs.length cap)).run Try.prog w = .ok (.string (strOfNums zs)) w := by
  refine run_convert_bytes_arg w 27 5 Try.underlying27 Try.underlying5 b 0 zs.length cap zs rfl ?_ 9 Try.underlying9
  intro i hi
  rw [Nat.zero_add]
  refine (h.cell i).trans ?_
  unfold octV
  rw [List.getElem?_map, List.getElem?_eq_getElem hi]
  simp [List.getD, hi]
theorem run_u8 (x : Int) (h : 0 ≤ x ∧ x ≤ 255) (w : World) : (convert 3 5 (.int .i64 x)).run Try.prog w = .ok (.int .u8 x) w := by
  have h1 := Try.underlying3
  have h2 := Try.underlying5
  simp [convert, run_underlying h1, run_underlying h2, Conv.intToInt, IntKind.wrap, IntKind.signed, IntKind.bits]
  omega
theorem run_at (w : World) (b o len cap j : Nat) (hj : j < len) : (Instr.indexAt 23 (.slice (some ⟨b, o, none⟩) len cap) (.int .i64 j)).run Try.prog w = .ok (.pointer (some ⟨b, o + j * 2, none⟩)) w := by
  go_simp
def CPutJ (wx : World) (h z : Int) (g : Nat → Bool) (w' : World) : Prop :=
  Below wx.heap.size wx w' ∧ (g 23 = false → w'.heap.size = wx.heap.size) ∧ (g 23 = true → Blk w' wx.heap.size (octV [h, z % 256, z / 256]) 5)
theorem CPutJ.same {wx w' : World} {h z : Int} {g : Nat → Bool} (k : CPutJ wx h z g w') {i : Nat} (hi : (i == 23) = false) : CPutJ wx h z (upd g i) w' := by
  have e : upd g i 23 = g 23 := by
    unfold upd
    rw [if_neg]
    intro e; subst e; simp at hi
  exact ⟨k.1, fun h => k.2.1 (e ▸ h), fun h => k.2.2 (e ▸ h)⟩
theorem run_rem (z : Nat) (hz : z ≤ 100000) (w : World) : (binOp .rem 3 (.int .i64 z) (.int .i64 256)).run Try.prog w = .ok (.int .i64 (z % 256)) w := by
  go_simp
  exact Int.tmod_eq_emod_of_nonneg (by omega)
theorem run_quo (z : Nat) (hz : z ≤ 100000) (w : World) : (binOp .quo 3 (.int .i64 z) (.int .i64 256)).run Try.prog w = .ok (.int .i64 (z / 256)) w := by
  go_simp
  unfold IntKind.wrap
  simp [IntKind.signed, IntKind.bits]
  omega
set_option maxRecDepth 8000 in
set_option maxHeartbeats 8000000 in
theorem rput13_calls (w : World) (A : Option Addr) (cap : Nat) (l : List Ent) (hL : RdAt w A l.length (namesV l)) (hd : Dir l) (hl : l.length ≤ 30) :
    Calls Try.prog 23 #[.slice A l.length cap] w fun e w' => e = .returned (.string (strOfNums (putN l))) ∧ Below w.heap.size w w' := by
  have HL := Lib.hid hL
  have HD := Lib.hid hd
  have hpl := putN_len hd hl
  have hcv0 := run_str_blk (zs := [(l.length : Int)]) (cap := 1) (Blk.new w #[.int .u8 l.length] 5)
  have hlen1 : [(l.length : Int)].length = 1 := rfl
  rw [hlen1] at hcv0
  have h0 : (oc.layL l.length 1 ++ (l.take 0).flatMap entO) = [(l.length : Int)] := by rw [layL_one (by omega)]; rfl
  have HB0 := Lib.hid ((Below.refl w.heap.size w).alloc (Nat.le_refl _) (.cells #[.int .u8 l.length] 5))
  clear hL hd
  go_enter Try.func23, Try.ntmps23
  go_wp2_with (simp only [hcv0])
  go_loopg [4, 3] l.length (fun q s4 s3 wx => ∃ j : Nat, q + j = l.length ∧ s4 = .int .i64 j ∧ s3 = .string (strOfNums (oc.layL l.length 1 ++ (l.take j).flatMap entO)) ∧ Hid (Below w.heap.size w wx))
  case atStart => exact ⟨0, by omega, rfl, by rw [h0], HB0⟩
  case round =>
    obtain ⟨j, hq, rfl, rfl, hb⟩ := hrel
    by_cases hj : j < l.length
    · obtain ⟨a, ha⟩ : ∃ a, l[j]? = some a := ⟨_, List.getElem?_eq_getElem hj⟩
      obtain ⟨bb, o, rfl, hbb, r1, r2⟩ := (HL.out.below (hb.out.mono (Nat.le_refl _))).ent ha
      have hm := HD.out.2.1 a (List.mem_of_getElem? ha)
      have hal := hm.2.2
      obtain ⟨z, hz⟩ : ∃ z, a.1.size = z := ⟨_, rfl⟩
      have hz32 : z ≤ 32 := by omega
      have hz0 : z ≤ 100000 := by omega
      have hbz : (bo a.1).length = z := by rw [bo_len, hz]
      have HT := Lib.hid (take_snoc ha)
      obtain ⟨zs, hzs⟩ : ∃ zs, oc.layL l.length 1 ++ (l.take j).flatMap entO = zs := ⟨_, rfl⟩
      have hzl : zs.length ≤ 2000 := by
        have h1 := flat_len (l := l.take j) fun x hx => (HD.out.2.1 x (List.mem_of_mem_take hx)).2.1
        have h2 : (l.take j).length ≤ 30 := by rw [List.length_take]; omega
        rw [← hzs, List.length_append, oc.layL_length]; omega
      have HZ := Lib.hid hzs
      rw [hzs]
      clear hm ha hzs hcv0 h0 HB0
      go_wp2_with fail
      refine wp_dagL [3] [(16, .string (strOfNums zs)), (17, .slice (some ⟨bb, o, none⟩) l.length cap), (18, .int .i64 j), (19, .pointer (some ⟨bb, o + j * 2, none⟩)), (20, .pointer (some ⟨bb, o + j * 2 + 1, none⟩)), (21, .int .i64 a.2), (22, .int .u8 a.2), (23, .slice (some ⟨bb, o, none⟩) l.length cap), (24, .int .i64 j), (25, .pointer (some ⟨bb, o + j * 2, none⟩)), (26, .pointer (some ⟨bb, o + j * 2, none⟩)), (27, .string a.1), (28, .int .i64 z), (29, .int .i64 (z % 256)), (30, .int .u8 (z % 256)), (31, .slice (some ⟨bb, o, none⟩) l.length cap), (32, .int .i64 j), (33, .pointer (some ⟨bb, o + j * 2, none⟩)), (34, .pointer (some ⟨bb, o + j * 2, none⟩)), (35, .string a.1), (36, .int .i64 z), (37, .int .i64 (z / 256)), (38, .int .u8 (z / 256)), (39, .slice (some ⟨wr.heap.size, 0, none⟩) 3 3), (40, .string (strOfNums [a.2, z % 256, z / 256])), (41, .string (strOfNums (zs ++ [a.2, z % 256, z / 256]))), (42, .slice (some ⟨bb, o, none⟩) l.length cap), (43, .int .i64 j), (44, .pointer (some ⟨bb, o + j * 2, none⟩)), (45, .pointer (some ⟨bb, o + j * 2, none⟩)), (46, .string a.1), (47, .string (strOfNums (zs ++ [a.2, z % 256, z / 256] ++ bo a.1))), (3, .string (strOfNums (zs ++ [a.2, z % 256, z / 256] ++ bo a.1)))] (CPutJ wr a.2 z) (by kernel_rfl) (by kernel_rfl) (by kernel_rfl) (by kernel_rfl) ⟨(Below.refl _ _).drew, fun h => rfl, (fun h => by cases h)⟩ ?_ ?_
      case refine_1 =>
        refine dagL_late (by kernel_rfl) (dag_val (v := .string (strOfNums zs)) (by kernel_rfl) (by kernel_rfl) (fun g0 w' h => by kernel_rfl) (fun g0 w' h => h.same rfl)) ?_
        refine dagL_cons (by kernel_rfl) (dag_val (v := .slice (some ⟨bb, o, none⟩) l.length cap) (by kernel_rfl) (by kernel_rfl) (fun g0 w' h => by kernel_rfl) (fun g0 w' h => h.same rfl)) ?_
        refine dagL_cons (by kernel_rfl) (dag_val (v := .int .i64 j) (by kernel_rfl) (by kernel_rfl) (fun g0 w' h => by kernel_rfl) (fun g0 w' h => h.same rfl)) ?_
        refine dagL_cons (by kernel_rfl) (dag_index (t := 23) (x := .tmp 17) (ix := .tmp 18) (v1 := .slice (some ⟨bb, o, none⟩) l.length cap) (v2 := .int .i64 j) (v := .pointer (some ⟨bb, o + j * 2, none⟩)) (by kernel_rfl) (by kernel_rfl) (by kernel_rfl) (by kernel_rfl) (by kernel_rfl) (fun w' => run_at w' bb o l.length cap j hj) (fun g0 w' h => h.same rfl)) ?_
        refine dagL_cons (by kernel_rfl) (dag_field (s := 47) (x := .tmp 19) (k := 1) (v1 := .pointer (some ⟨bb, o + j * 2, none⟩)) (v := .pointer (some ⟨bb, o + j * 2 + 1, none⟩)) (by kernel_rfl) (by kernel_rfl) (by kernel_rfl) (by kernel_rfl) (fun w' => by kernel_rfl) (fun g0 w' h => h.same rfl)) ?_
        refine dagL_cons (by kernel_rfl) (dag_load (t := 3) (d := .int .i64) (x := .tmp 20) (p := ⟨bb, o + j * 2 + 1, none⟩) (v := .int .i64 a.2) (by kernel_rfl) (by kernel_rfl) (by kernel_rfl) (by kernel_rfl) Try.underlying3 rfl (fun g0 w' h => (h.1.cell (p := ⟨bb, o + j * 2 + 1, none⟩) hbb).trans r2) (fun g0 w' h => h.same rfl)) ?_
        refine dagL_cons (by kernel_rfl) (dag_conv (s := 3) (d := 5) (x := .tmp 21) (v := .int .i64 a.2) (u := .int .u8 a.2) (by kernel_rfl) (by kernel_rfl) (by kernel_rfl) (by kernel_rfl) (fun w' => run_u8 _ (by omega) w') (fun g0 w' h => h.same rfl)) ?_
        refine dagL_cons (by kernel_rfl) (dag_val (v := .slice (some ⟨bb, o, none⟩) l.length cap) (by kernel_rfl) (by kernel_rfl) (fun g0 w' h => by kernel_rfl) (fun g0 w' h => h.same rfl)) ?_
        refine dagL_cons (by kernel_rfl) (dag_val (v := .int .i64 j) (by kernel_rfl) (by kernel_rfl) (fun g0 w' h => by kernel_rfl) (fun g0 w' h => h.same rfl)) ?_
        refine dagL_cons (by kernel_rfl) (dag_index (t := 23) (x := .tmp 23) (ix := .tmp 24) (v1 := .slice (some ⟨bb, o, none⟩) l.length cap) (v2 := .int .i64 j) (v := .pointer (some ⟨bb, o + j * 2, none⟩)) (by kernel_rfl) (by kernel_rfl) (by kernel_rfl) (by kernel_rfl) (by kernel_rfl) (fun w' => run_at w' bb o l.length cap j hj) (fun g0 w' h => h.same rfl)) ?_
        refine dagL_cons (by kernel_rfl) (dag_field (s := 47) (x := .tmp 25) (k := 0) (v1 := .pointer (some ⟨bb, o + j * 2, none⟩)) (v := .pointer (some ⟨bb, o + j * 2, none⟩)) (by kernel_rfl) (by kernel_rfl) (by kernel_rfl) (by kernel_rfl) (fun w' => by kernel_rfl) (fun g0 w' h => h.same rfl)) ?_
        refine dagL_cons (by kernel_rfl) (dag_load (t := 9) (d := .string) (x := .tmp 26) (p := ⟨bb, o + j * 2, none⟩) (v := .string a.1) (by kernel_rfl) (by kernel_rfl) (by kernel_rfl) (by kernel_rfl) Try.underlying9 rfl (fun g0 w' h => (h.1.cell (p := ⟨bb, o + j * 2, none⟩) hbb).trans r1) (fun g0 w' h => h.same rfl)) ?_
        refine dagL_cons (by kernel_rfl) (dag_make (v := .int .i64 z) (by kernel_rfl) (by kernel_rfl) (fun g0 w' _ _ h => ⟨w', by rw [← hz]; kernel_rfl, h.same rfl⟩)) ?_
        refine dagL_cons (by kernel_rfl) (dag_bin (b := .rem) (t := 3) (t' := 3) (x := .tmp 28) (y := .const (.int .i64 256)) (v1 := .int .i64 z) (v2 := .int .i64 256) (v := .int .i64 (z % 256)) (by kernel_rfl) (by kernel_rfl) (by kernel_rfl) (by kernel_rfl) (by kernel_rfl) rfl (fun w' => run_rem z hz0 w') (fun g0 w' h => h.same rfl)) ?_
        refine dagL_cons (by kernel_rfl) (dag_conv (s := 3) (d := 5) (x := .tmp 29) (v := .int .i64 (z % 256)) (u := .int .u8 (z % 256)) (by kernel_rfl) (by kernel_rfl) (by kernel_rfl) (by kernel_rfl) (fun w' => run_u8 _ (by omega) w') (fun g0 w' h => h.same rfl)) ?_
        refine dagL_cons (by kernel_rfl) (dag_val (v := .slice (some ⟨bb, o, none⟩) l.length cap) (by kernel_rfl) (by kernel_rfl) (fun g0 w' h => by kernel_rfl) (fun g0 w' h => h.same rfl)) ?_
        refine dagL_cons (by kernel_rfl) (dag_val (v := .int .i64 j) (by kernel_rfl) (by kernel_rfl) (fun g0 w' h => by kernel_rfl) (fun g0 w' h => h.same rfl)) ?_
        refine dagL_cons (by kernel_rfl) (dag_index (t := 23) (x := .tmp 31) (ix := .tmp 32) (v1 := .slice (some ⟨bb, o, none⟩) l.length cap) (v2 := .int .i64 j) (v := .pointer (some ⟨bb, o + j * 2, none⟩)) (by kernel_rfl) (by kernel_rfl) (by kernel_rfl) (by kernel_rfl) (by kernel_rfl) (fun w' => run_at w' bb o l.length cap j hj) (fun g0 w' h => h.same rfl)) ?_
        refine dagL_cons (by kernel_rfl) (dag_field (s := 47) (x := .tmp 33) (k := 0) (v1 := .pointer (some ⟨bb, o + j * 2, none⟩)) (v := .pointer (some ⟨bb, o + j * 2, none⟩)) (by kernel_rfl) (by kernel_rfl) (by kernel_rfl) (by kernel_rfl) (fun w' => by kernel_rfl) (fun g0 w' h => h.same rfl)) ?_
        refine dagL_cons (by kernel_rfl) (dag_load (t := 9) (d := .string) (x := .tmp 34) (p := ⟨bb, o + j * 2, none⟩) (v := .string a.1) (by kernel_rfl) (by kernel_rfl) (by kernel_rfl) (by kernel_rfl) Try.underlying9 rfl (fun g0 w' h => (h.1.cell (p := ⟨bb, o + j * 2, none⟩) hbb).trans r1) (fun g0 w' h => h.same rfl)) ?_
        refine dagL_cons (by kernel_rfl) (dag_make (v := .int .i64 z) (by kernel_rfl) (by kernel_rfl) (fun g0 w' _ _ h => ⟨w', by rw [← hz]; kernel_rfl, h.same rfl⟩)) ?_
        refine dagL_cons (by kernel_rfl) (dag_bin (b := .quo) (t := 3) (t' := 3) (x := .tmp 36) (y := .const (.int .i64 256)) (v1 := .int .i64 z) (v2 := .int .i64 256) (v := .int .i64 (z / 256)) (by kernel_rfl) (by kernel_rfl) (by kernel_rfl) (by kernel_rfl) (by kernel_rfl) rfl (fun w' => run_quo z hz0 w') (fun g0 w' h => h.same rfl)) ?_
        refine dagL_cons (by kernel_rfl) (dag_conv (s := 3) (d := 5) (x := .tmp 37) (v := .int .i64 (z / 256)) (u := .int .u8 (z / 256)) (by kernel_rfl) (by kernel_rfl) (by kernel_rfl) (by kernel_rfl) (fun w' => run_u8 _ (by omega) w') (fun g0 w' h => h.same rfl)) ?_
        refine dagL_cons (by kernel_rfl) (dag_make (v := .slice (some ⟨wr.heap.size, 0, none⟩) 3 3) (by kernel_rfl) (by kernel_rfl) (fun g0 w' h1 h2 h => ?_)) ?_
        case refine_1 =>
          have hs := h.2.1 h1
          refine ⟨w'.alloc (.cells #[.int .u8 a.2, .int .u8 ((z : Int) % 256), .int .u8 ((z : Int) / 256)] 5), ?_, ?_, ?_, ?_⟩
          · rw [← hs]; kernel_rfl
          · exact h.1.alloc (by omega) _
          · intro hf; cases hf
          · intro _
            rw [← hs]
            exact Blk.new w' #[.int .u8 a.2, .int .u8 ((z : Int) % 256), .int .u8 ((z : Int) / 256)] 5
        refine dagL_cons (by kernel_rfl) (dag_convJ (s := 27) (d := 9) (x := .tmp 39) (v := .slice (some ⟨wr.heap.size, 0, none⟩) 3 3) (u := .string (strOfNums [a.2, z % 256, z / 256])) (by kernel_rfl) (by kernel_rfl) (by kernel_rfl) (by kernel_rfl) (fun g0 w' hd h => run_str_blk (zs := [a.2, z % 256, z / 256]) (h.2.2 (hd { on := 23, ground := Ground.data } (by simp) rfl))) (fun g0 w' h => h.same rfl)) ?_
        refine dagL_cons (by kernel_rfl) (dag_bin (b := .add) (t := 9) (t' := 9) (x := .tmp 16) (y := .tmp 40) (v1 := .string (strOfNums zs)) (v2 := .string (strOfNums [a.2, z % 256, z / 256])) (v := .string (strOfNums (zs ++ [a.2, z % 256, z / 256]))) (by kernel_rfl) (by kernel_rfl) (by kernel_rfl) (by kernel_rfl) (by kernel_rfl) rfl (fun w' => by rw [← strOf_app]; exact run_addS (by rw [strOf_size, strOf_size]; simp; omega) w') (fun g0 w' h => h.same rfl)) ?_
        refine dagL_cons (by kernel_rfl) (dag_val (v := .slice (some ⟨bb, o, none⟩) l.length cap) (by kernel_rfl) (by kernel_rfl) (fun g0 w' h => by kernel_rfl) (fun g0 w' h => h.same rfl)) ?_
        refine dagL_cons (by kernel_rfl) (dag_val (v := .int .i64 j) (by kernel_rfl) (by kernel_rfl) (fun g0 w' h => by kernel_rfl) (fun g0 w' h => h.same rfl)) ?_
        refine dagL_cons (by kernel_rfl) (dag_index (t := 23) (x := .tmp 42) (ix := .tmp 43) (v1 := .slice (some ⟨bb, o, none⟩) l.length cap) (v2 := .int .i64 j) (v := .pointer (some ⟨bb, o + j * 2, none⟩)) (by kernel_rfl) (by kernel_rfl) (by kernel_rfl) (by kernel_rfl) (by kernel_rfl) (fun w' => run_at w' bb o l.length cap j hj) (fun g0 w' h => h.same rfl)) ?_
        refine dagL_cons (by kernel_rfl) (dag_field (s := 47) (x := .tmp 44) (k := 0) (v1 := .pointer (some ⟨bb, o + j * 2, none⟩)) (v := .pointer (some ⟨bb, o + j * 2, none⟩)) (by kernel_rfl) (by kernel_rfl) (by kernel_rfl) (by kernel_rfl) (fun w' => by kernel_rfl) (fun g0 w' h => h.same rfl)) ?_
        refine dagL_cons (by kernel_rfl) (dag_load (t := 9) (d := .string) (x := .tmp 45) (p := ⟨bb, o + j * 2, none⟩) (v := .string a.1) (by kernel_rfl) (by kernel_rfl) (by kernel_rfl) (by kernel_rfl) Try.underlying9 rfl (fun g0 w' h => (h.1.cell (p := ⟨bb, o + j * 2, none⟩) hbb).trans r1) (fun g0 w' h => h.same rfl)) ?_
        refine dagL_cons (by kernel_rfl) (dag_bin (b := .add) (t := 9) (t' := 9) (x := .tmp 41) (y := .tmp 46) (v1 := .string (strOfNums (zs ++ [a.2, z % 256, z / 256]))) (v2 := .string a.1) (v := .string (strOfNums (zs ++ [a.2, z % 256, z / 256] ++ bo a.1))) (by kernel_rfl) (by kernel_rfl) (by kernel_rfl) (by kernel_rfl) (by kernel_rfl) rfl (fun w' => by rw [← strOf_app _ (bo a.1), strOf_bo]; exact run_addS (by rw [strOf_size, List.length_append]; simp; omega) w') (fun g0 w' h => h.same rfl)) ?_
        refine dagL_cons (by kernel_rfl) (dag_val (v := .string (strOfNums (zs ++ [a.2, z % 256, z / 256] ++ bo a.1))) (by kernel_rfl) (by kernel_rfl) (fun g0 w' h => by kernel_rfl) (fun g0 w' h => h.same rfl)) ?_
        exact dagL_nil
      case refine_2 =>
        rintro w5 ⟨j1, _, _⟩
        have HJ := Lib.hid (bel_next hb.out j1 (Nat.le_refl _))
        have HE := Lib.hid (show zs ++ [a.2, (z : Int) % 256, (z : Int) / 256] ++ bo a.1 = oc.layL l.length 1 ++ (l.take (j + 1)).flatMap entO by
          rw [HT.out, List.flatMap_append, ← List.append_assoc, HZ.out]
          have h1 : 0 ≤ a.2 ∧ a.2 ≤ 255 := by omega
          simp [entO, layL_one h1, layL_two (n := (z : Int)) (by omega), hz])
        simp only [putAll, List.foldl_cons, List.foldl_nil]
        clear j1
        go_wp2
        go_roundg (l.length - (j + 1))
        case measure => omega
        case rel => exact ⟨j + 1, by omega, by go_num, by rw [← HE.out]; simp, HJ⟩
    · obtain rfl : j = l.length := by omega
      go_wp2
      go_ret
      exact ⟨by rw [List.take_length]; rfl, hb.out⟩
end Go.Proofs.Ytanfjiccilibcaa
