/- The walk of NamesFull. -/
import Derived.Test.YtanfjiccilibcaaNmL
import Derived.Deep.CutBlock
import Derived.Deep.DeepCutAuto
namespace Go.Proofs.Ytanfjiccilibcaa
open Go.RowKit
set_option linter.unusedVariables false

theorem own_read {w : World} {base : Nat} {v : Value} {l : List Ent} (h : w.ownsRow base 47 2 v l.length (namesV l)) : ∃ A c, v = .slice A l.length c ∧ RdAt w A l.length (namesV l) := by
  obtain ⟨A, c, rfl⟩ := ownsRow_slice h
  exact ⟨A, c, rfl, RdAt.of_own h⟩
theorem rd_nil (w : World) (A : Option Addr) : RdAt w A ([] : List Ent).length (namesV []) := .inl rfl
set_option maxHeartbeats 4000000 in
theorem awake_calls13 (w : World) : Calls Try.prog 7 #[] w fun e w' => e = .returned (.bool true) ∧ Below w.heap.size w w' := by
  go_enter Try.func7, Try.ntmps7
  go_wp2_with fail
  refine (add_calls _ none 0 [] _ nb 1 0 (rd_nil _ _) Dir.nil (by simp) awake_b).mono ?_
  rintro e w2 ⟨v, rfl, hown, hb⟩
  obtain ⟨A1, c1, rfl, hr1⟩ := own_read hown
  have HR1 := Lib.hid hr1
  have HB1 := Lib.hid hb
  clear hown hr1 hb
  go_wp2_with fail
  refine (add_calls _ A1 c1 [(nb, 1)] _ na 2 0 HR1.out dir_b (by simp) awake_a).mono ?_
  rintro e w3 ⟨v, rfl, hown, hb⟩
  obtain ⟨A2, c2, rfl, hr2⟩ := own_read hown
  have HB2 := Lib.hid (bel_next HB1.out hb (Nat.le_refl _))
  obtain ⟨b, o, rfl, _, k0, _⟩ := hr2.ent (k := 0) rfl
  obtain ⟨b', o', he, _, _, k1⟩ := hr2.ent (k := 1) rfl
  cases he
  simp only [Nat.zero_mul, Nat.add_zero] at k0
  have hna : na.toList = [97] := by simp [na]
  clear hown hb hr2
  go_wp2
  go_ret
  exact ⟨rfl, HB2.out⟩
theorem str2 (w : World) (i : Nat) (hi : i < 64) : (convert 27 9 (.slice (some ⟨w.heap.size, 0, none⟩) 2 2)).run Try.prog (w.alloc (.cells #[.int .u8 110, .int .u8 (48 + (i : Int))] 5)) = .ok (.string (nm i)) (w.alloc (.cells #[.int .u8 110, .int .u8 (48 + (i : Int))] 5)) := by
  have h : (w.alloc (.cells #[.int .u8 110, .int .u8 (48 + (i : Int))] 5)).ownsRow w.heap.size 5 1 (.slice (some ⟨w.heap.size, 0, none⟩) 2 2) 2 ([110, 48 + (i : Int)].map (Value.int .u8)) :=
    ⟨rfl, .inr ⟨w.heap.size, 2, _, rfl, Nat.le_refl _, heap_alloc_new w _, Nat.le_refl _, by unfold maxLen; omega, rfl, rfl⟩⟩
  rw [run_string_own (xs := [110, 48 + (i : Int)]) h 27 9 Try.underlying27 Try.underlying5 Try.underlying9]
  have e : strOfNums [110, 48 + (i : Int)] = nm i := by
    have h2 : (48 + (i : Int)).toNat = 48 + i := by omega
    unfold strOfNums nm
    simp only [List.map_cons, List.map_nil, h2]
    rfl
  rw [e]
set_option maxHeartbeats 8000000 in
theorem full_walk (g : Int) (w : World) (wf : (Lit.int .i64 g).wf = true) :
    Calls Try.prog 3 #[.int .i64 g] w fun e w' => e = .returned (.bool true) ∧ Below w.heap.size w w' := by
  have hg := wf_i64 wf
  clear wf
  go_enter Try.func3, Try.ntmps3
  go_wp2_with fail
  refine (awake_calls13 _).mono ?_
  rintro e w1 ⟨rfl, hb1⟩
  have HB1 := Lib.hid hb1
  clear hb1
  go_wp2_with fail
  go_loopg [3, 4, 5, 6, 7] 64 (fun q s3 s4 s5 s6 s7 wr => ∃ (i : Nat) (A : Option Addr) (c : Nat), q + i = 64 ∧ s3 = .slice A i c ∧ s4 = .int .i64 i ∧ Hid (RdAt wr A i (namesV (lN i))) ∧ Hid (Below w.heap.size w wr))
  case atStart => exact ⟨0, none, 0, by omega, rfl, rfl, Lib.hid (.inl rfl), HB1⟩
  case round =>
    obtain ⟨i, A, c, hq, rfl, rfl, hr, hb⟩ := hrel
    by_cases hlt : i < 64
    · have HBk := Lib.hid (hb.out.alloc (by exact hb.out.size) (.cells #[.int .u8 110, .int .u8 (48 + (i : Int))] 5))
      have HRk := Lib.hid (hr.out.alloc (.cells #[.int .u8 110, .int .u8 (48 + (i : Int))] 5))
      have hcv := str2 wr i hlt
      have hll := lN_length i
      go_wp2_with (simp only [hcv])
      generalize wr.alloc (.cells #[.int .u8 110, .int .u8 (48 + (i : Int))] 5) = W1 at *
      have hR1 : RdAt W1 A (lN i).length (namesV (lN i)) := by rw [hll]; exact HRk.out
      have hadd := add_calls W1 A c (lN i) _ (nm i) _ 0 hR1 (lN_dir (by omega)) (by omega) (lN_add hlt)
      rw [hll] at hadd
      refine hadd.mono ?_
      rintro e w3 ⟨v, rfl, hown, hb3⟩
      obtain ⟨A3, c3, rfl, hr3⟩ := own_read hown
      rw [lN_length] at hr3
      have HR3 := Lib.hid hr3
      have HB3 := Lib.hid (bel_next HBk.out hb3 (Nat.le_refl _))
      clear hown hr3 hb3 hadd hcv hR1
      rw [lN_length]
      go_wp2
      go_roundg (64 - (i + 1))
      case measure => omega
      case rel => exact ⟨i + 1, A3, c3, by omega, rfl, by go_num, HR3, HB3⟩
    · obtain rfl : i = 64 := by omega
      have h5 := Int.tmod_lt_of_pos g (show (0 : Int) < 64 by omega)
      have h6 : -64 < g.tmod 64 := by
        have := Int.tmod_lt_of_pos (-g) (show (0 : Int) < 64 by omega)
        rw [Int.neg_tmod] at this
        omega
      have hw64 : wrap64 (g.tmod 64 + 64) = g.tmod 64 + 64 := by unfold wrap64; omega
      obtain ⟨k, hk, hke⟩ : ∃ k : Nat, k < 64 ∧ (wrap64 (g.tmod 64 + 64)).tmod 64 = (k : Int) := by
        rw [hw64]
        refine ⟨((g.tmod 64 + 64).tmod 64).toNat, ?_, ?_⟩
        · rw [Int.tmod_eq_emod_of_nonneg (by omega)]; omega
        · rw [Int.tmod_eq_emod_of_nonneg (by omega)]; omega
      clear h5 h6 hw64
      go_wp2_with fail
      refine (add_calls _ A c (lN 64) [] more 0 16 hr.out (lN_dir (by omega)) (by rw [lN_length]; omega) lN_full).mono ?_
      rintro e w3 ⟨v, rfl, hown, hb3⟩
      have HR3 := Lib.hid (hr.out.below (hb3.mono (Nat.le_refl _)))
      have HB3 := Lib.hid (bel_next hb.out hb3 (Nat.le_refl _))
      clear hown hb3
      have hcv := str2 w3 k hk
      have HBk := Lib.hid (HB3.out.alloc (by exact HB3.out.size) (.cells #[.int .u8 110, .int .u8 (48 + (k : Int))] 5))
      have HRk := Lib.hid (HR3.out.alloc (.cells #[.int .u8 110, .int .u8 (48 + (k : Int))] 5))
      go_wp2_with (simp only [hcv])
      generalize w3.alloc (.cells #[.int .u8 110, .int .u8 (48 + (k : Int))] 5) = W1 at *
      refine (drop_calls W1 A c (lN 64) _ (nm k) 0 HRk.out (lN_dir (by omega)) (by rw [lN_length]; omega) (lN_drop hk)).mono ?_
      rintro e w5 ⟨v5, rfl, hown, hb5⟩
      obtain ⟨A5, c5, rfl, hr5⟩ := own_read hown
      have HR5 := Lib.hid hr5
      have HB5 := Lib.hid (bel_next HBk.out hb5 (Nat.le_refl _))
      have hd5 : Dir (delL (lN 64) k) := (lN_dir (by omega)).del
      have hl5 : (delL (lN 64) k).length ≤ 90000 := by have := delL_length (l := lN 64) (i := k) (by rw [lN_length]; exact hk); rw [lN_length] at this; omega
      have hF := lN_again hk
      have HL6 := Lib.hid (lN_again_len hk)
      have hd6 := hF.dir hd5
      generalize delL (lN 64) k = d at *
      generalize addL d 0 more ((k : Int) + 1) = m at *
      have HF := Lib.hid hF
      have HD5 := Lib.hid hd5
      have HD6 := Lib.hid hd6
      clear hown hr5 hb5 hcv hF hd5 hd6
      go_wp2_with fail
      refine (add_calls _ A5 c5 d m more _ 0 HR5.out HD5.out hl5 HF.out).mono ?_
      rintro e w6 ⟨v6, rfl, hown, hb6⟩
      obtain ⟨A6, c6, rfl, hr6⟩ := own_read hown
      have HR6 := Lib.hid hr6
      have HB6 := Lib.hid (bel_next HB5.out hb6 (Nat.le_refl _))
      clear hown hr6 hb6
      go_wp2_with fail
      refine (right_calls _ A6 c6 m HR6.out HD6.out.heaps (by rw [HL6.out]; omega)).mono ?_
      rintro e w7 ⟨b, rfl, hb, hb7⟩
      obtain rfl : b = true := hb.2 HD6.out.right
      have HB7 := Lib.hid (bel_next HB6.out hb7 (Nat.le_refl _))
      clear hb hb7
      rw [HL6.out]
      go_wp2
      go_ret
      exact ⟨rfl, HB7.out⟩
end Go.Proofs.Ytanfjiccilibcaa
