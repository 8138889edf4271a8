/- The walks through package ints and the document's answer for layer 1, third part: numbers of bits, low bits with and without a sign. -/
import Derived.Test.YtebkikmgjmmnpaaIntsV
namespace Go.Proofs.Ytebkikmgjmmnpaa
open Go.RowKit
set_option linter.unusedVariables false

theorem hor_drop (l : List Int) (k : Nat) (hk : k < l.length) : hor (l.drop k) = l[k]?.getD 0 + 2 * hor (l.drop (k + 1)) := by
  rw [List.drop_eq_getElem_cons hk]; simp [hor, hk]
theorem bit_at (l : List Int) (h : ∀ b ∈ l, 0 ≤ b ∧ b ≤ 1) (k : Nat) (hk : k < l.length) : 0 ≤ l[k]?.getD 0 ∧ l[k]?.getD 0 ≤ 1 := by
  have : l[k]?.getD 0 = l[k] := by simp [hk]
  rw [this]; exact h _ (List.getElem_mem hk)
theorem hor_64 (l : List Int) (h : ∀ b ∈ l, 0 ≤ b ∧ b ≤ 1) (hl : l.length ≤ 64) : 0 ≤ hor l ∧ hor l < 18446744073709551616 := by
  have := hor_bd l h
  have e := pow_cast l.length
  have := pow_le64 l.length hl
  omega
theorem hor_drop_bd (l : List Int) (h : ∀ b ∈ l, 0 ≤ b ∧ b ≤ 1) (hl : l.length ≤ 64) (k : Nat) : 0 ≤ hor (l.drop k) ∧ hor (l.drop k) < 18446744073709551616 :=
  hor_64 _ (fun b hb => h b (List.mem_of_mem_drop hb)) (by simp; omega)

set_option maxHeartbeats 400000 in
theorem of_calls (v : Value) (l : List Int) (base : Nat) (w : World) (hown : w.ownsRow base 3 1 v l.length (l.map (.int .i64))) (hbit : ∀ b ∈ l, 0 ≤ b ∧ b ≤ 1) (hlen : l.length ≤ 64) :
    Calls Try.prog 32 #[v] w fun e w' => e = .returned (.int .i64 (wrap64 (hor l))) ∧ w = w' := by
  rcases ownsRow_form hown with ⟨rfl, hn⟩ | ⟨g, cap, rfl, _, _, _, _⟩
  · have hl : l = [] := List.eq_nil_of_length_eq_zero hn
    subst hl
    clear hown hn
    go_enter Try.func32, Try.ntmps32
    go_wp2
    refine wp_loop_rounds 1 ?_
    rw [rounds_succ]
    go_wp2
    all_goals go_ret
    exact ⟨ret_eq (by simp [hor, wrap64]), rfl⟩
  · have hc : ∀ j, j < l.length → w.cell? ⟨g, j, none⟩ = some (.int .i64 (l[j]?.getD 0)) := fun j hj => by
      rw [ownsRow_cell hown j hj]; simp [hj]
    have HC := Lib.hid hc
    clear hc hown
    have HB := Lib.hid hbit
    clear hbit
    go_enter Try.func32, Try.ntmps32
    go_wp2
    go_loop [3, 4] (fun u i => ∃ (k : Nat) (x : Int), k ≤ l.length ∧ 0 ≤ x ∧ x < 18446744073709551616 ∧ i = .int .i64 ((k : Int) - 1) ∧ u = .int .u64 x ∧ Hid (x = hor (l.drop k))) (fun _ i => (intOf i + 1).toNat)
    case atStart => exact ⟨l.length, 0, Nat.le_refl _, by omega, by omega, rfl, rfl, Lib.hid (by simp [hor])⟩
    case round =>
      obtain ⟨k, x, hk, hx0, hx1, rfl, rfl, hX⟩ := hrel
      by_cases hlt : 0 < k
      · obtain ⟨m, rfl⟩ : ∃ m, k = m + 1 := ⟨k - 1, by omega⟩
        have hcell := HC.out m (by omega)
        have hbd := bit_at l HB.out m (by omega)
        have hd := hor_drop l m (by omega)
        have hdd := hor_drop_bd l HB.out hlen m
        have hle : 2 * x + l[m]?.getD 0 < 18446744073709551616 := by rw [hX.out]; omega
        rw [← hX.out] at hd
        generalize l[m]?.getD 0 = y at *
        have hd' := Lib.hid hd
        clear hd hdd
        have hi : ((m + 1 : Nat) : Int) - 1 = (m : Int) := by omega
        rw [hi]
        clear hi
        go_wp2
        refine ⟨⟨m, 2 * x + y, by omega, by omega, by omega, by go_num, by go_num, Lib.hid (by have := hd'.out; omega)⟩, by simp [intOf]⟩
      · have hk0 : k = 0 := by omega
        subst hk0
        go_wp2
        all_goals go_ret
        have h2 := hX.out
        exact ⟨ret_eq (by rw [h2]; rfl), rfl⟩

set_option maxHeartbeats 400000 in
theorem rlow_calls (n k : Int) (w : World) :
    Calls Try.prog 19 #[.int .i64 n, .int .i64 k] w fun e w' => e = .returned (.int .i64 (lowL n k)) ∧ Below w.heap.size w w' := by
  have hb := cnt_bd k 64 (by omega)
  obtain ⟨m, hm⟩ : ∃ m : Nat, cnt k 64 = m := ⟨(cnt k 64).toNat, by omega⟩
  obtain ⟨i0, hi, hz0, hz1, hz2⟩ := info_parts Try.info_int
  have hm64 : m ≤ 64 := by omega
  have HM := Lib.hid hm
  clear hm hb
  have HL := Lib.hid (low_hor n k)
  go_enter Try.func19, Try.ntmps19
  go_wp2
  go_loopw [5, 6] (fun v i wr => ∃ j : Nat, j ≤ m ∧ i = .int .i64 j ∧ wr.ownsRow w.heap.size 3 1 v j ((bitsOf (U n) j).map (.int .i64)) ∧ Below w.heap.size w wr) (fun _ i _ => m - (intOf i).toNat)
  case atStart => exact ⟨0, Nat.zero_le _, rfl, World.ownsRow_nil _ _ _ _, Below.refl _ _⟩
  case round =>
    obtain ⟨j, hj, rfl, hown, hbel⟩ := hrel
    have hbw := hbel.size
    by_cases hlt : j < m
    · go_wp2_with fail
      refine (within_calls _ _ _ (by omega)).mono ?_
      rintro e w' ⟨rfl, rfl⟩
      rw [HM.out]
      go_wp2_with (first | (go_at_call 31; refine (bit_calls _ _ _ (by omega) (by omega)).mono ?_; rintro e w' ⟨rfl, rfl⟩) | (at_builtin; refine wpList_append1 rfl (.tmp 13) (.tmp 17) 39 rfl w.heap.size 3 i0 (.int .i64 0) 8 Try.underlying39 hi hz0 hz1 hz2 rfl u5 _ _ rfl hown rfl rfl (by omega) (by unfold maxLen; omega) (by omega) ?_; intro v' w1 hown1 hgr1 hne1))
      refine ⟨⟨j + 1, by omega, by go_num, ?_, hbel.grown hgr1 hbw (fun j hj => (hown.lt j hj).1)⟩, by simp [intOf]; omega⟩
      rw [bitsOf_succ, List.map_append]
      simpa [bitL] using hown1
    · have hjm : j = m := by omega
      subst hjm
      go_wp2_with fail
      refine (within_calls _ _ _ (by omega)).mono ?_
      rintro e w' ⟨rfl, rfl⟩
      rw [HM.out]
      go_wp2_with fail
      refine (of_calls _ (bitsOf (U n) j) w.heap.size _ (by rw [bitsOf_length]; exact hown) (bitsOf_bd _ _) (by rw [bitsOf_length]; omega)).mono ?_
      rintro e w' ⟨rfl, rfl⟩
      go_wp2
      go_ret
      have h2 := HL.out
      rw [HM.out, Int.toNat_natCast] at h2
      exact ⟨ret_eq h2, hbel⟩

set_option maxHeartbeats 400000 in
theorem rsigned_calls (n k : Int) (w : World) :
    Calls Try.prog 20 #[.int .i64 n, .int .i64 k] w fun e w' => e = .returned (.int .i64 (sgL n k)) ∧ Below w.heap.size w w' := by
  have hb := cnt_bd k 64 (by omega)
  obtain ⟨m, hm⟩ : ∃ m : Nat, cnt k 64 = m := ⟨(cnt k 64).toNat, by omega⟩
  obtain ⟨i0, hi, hz0, hz1, hz2⟩ := info_parts Try.info_int
  have hm64 : m ≤ 64 := by omega
  have HM := Lib.hid hm
  clear hm hb
  have HL := Lib.hid (sgL_hor n k)
  go_enter Try.func20, Try.ntmps20
  go_wp2
  go_loopw [5, 6, 7] (fun v l i wr => ∃ (j : Nat) (x : Int), j ≤ 64 ∧ i = .int .i64 j ∧ l = .int .i64 x ∧ Hid (x = if j = 0 ∨ m = 0 then 0 else bitL n (((min j m : Nat) : Int) - 1)) ∧ wr.ownsRow w.heap.size 3 1 v j ((sgBits n m j).map (.int .i64)) ∧ Below w.heap.size w wr) (fun _ _ i _ => 64 - (intOf i).toNat)
  case atStart => exact ⟨0, 0, Nat.zero_le _, rfl, rfl, Lib.hid (by simp), by simpa [sgBits, bitsOf] using World.ownsRow_nil _ _ _ _, Below.refl _ _⟩
  case round =>
    obtain ⟨j, x, hj, rfl, rfl, hX, hown, hbel⟩ := hrel
    have hbw := hbel.size
    by_cases hlt : j < 64
    · go_wp2_with fail
      refine (within_calls _ _ _ (by omega)).mono ?_
      rintro e w' ⟨rfl, rfl⟩
      rw [HM.out]
      by_cases hjm : j < m
      · go_wp2_with (first | (go_at_call 31; refine (bit_calls _ _ _ (by omega) (by omega)).mono ?_; rintro e w' ⟨rfl, rfl⟩) | (at_builtin; refine wpList_append1 rfl (.tmp 19) (.tmp 21) 39 rfl w.heap.size 3 i0 (.int .i64 0) 8 Try.underlying39 hi hz0 hz1 hz2 rfl u5 _ _ rfl hown rfl rfl (by omega) (by unfold maxLen; omega) (by omega) ?_; intro v' w1 hown1 hgr1 hne1))
        refine ⟨⟨j + 1, bitL n j, by omega, by go_num, rfl, Lib.hid ?_, ?_, hbel.grown hgr1 hbw (fun j hj => (hown.lt j hj).1)⟩, by simp [intOf]; omega⟩
        · rw [if_neg (by omega), Nat.min_eq_left (by omega)]; congr 1; omega
        · rw [sgBits_lo n m j hjm, List.map_append]
          exact hown1
      · go_wp2_with (at_builtin; refine wpList_append1 rfl (.tmp 19) (.tmp 21) 39 rfl w.heap.size 3 i0 (.int .i64 0) 8 Try.underlying39 hi hz0 hz1 hz2 rfl u5 _ _ rfl hown rfl rfl (by omega) (by unfold maxLen; omega) (by omega) ?_; intro v' w1 hown1 hgr1 hne1)
        refine ⟨⟨j + 1, x, by omega, by go_num, rfl, Lib.hid ?_, ?_, hbel.grown hgr1 hbw (fun j hj => (hown.lt j hj).1)⟩, by simp [intOf]; omega⟩
        · have h2 := hX.out
          by_cases hm0 : m = 0
          · rw [h2, if_pos (.inr hm0), if_pos (.inr hm0)]
          · rw [h2, if_neg (by omega), if_neg (by omega), Nat.min_eq_right (by omega), Nat.min_eq_right (by omega)]
        · rw [sgBits_hi n m j (by omega), List.map_append]
          have hl : lastL n m = x := by
            have h2 := hX.out
            unfold lastL
            by_cases hm0 : m = 0
            · rw [if_pos hm0, h2, if_pos (Or.inr hm0)]
            · rw [if_neg hm0, h2, if_neg (by omega), Nat.min_eq_right (by omega)]
          rw [hl]
          exact hown1
    · have hjm : j = 64 := by omega
      subst hjm
      go_wp2_with fail
      refine (of_calls _ (sgBits n m 64) w.heap.size _ (by rw [sgBits_length]; exact hown) (sgBits_bd _ _ _) (by rw [sgBits_length]; omega)).mono ?_
      rintro e w' ⟨rfl, rfl⟩
      go_wp2
      go_ret
      have h2 := HL.out
      rw [HM.out, Int.toNat_natCast] at h2
      exact ⟨ret_eq h2, hbel⟩
end Go.Proofs.Ytebkikmgjmmnpaa
