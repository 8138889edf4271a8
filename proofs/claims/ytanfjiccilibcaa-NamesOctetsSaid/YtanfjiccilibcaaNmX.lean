/- The walks through package pack: texts. -/
import Derived.Test.YtanfjiccilibcaaNmO
namespace Go.Proofs.Ytanfjiccilibcaa
open Go.RowKit
set_option linter.unusedVariables false

theorem store_wr2 {w w' : World} {B W n : Nat} {v v' : Value} {zs ys : List Int} (hBW : B ≤ W) (hW : Blk w W [v] 77) (ho : v.ownBlock ≠ some W) (hgr : w.grownBy w' v.ownBlock)
    (hown : w'.ownsRow B 5 1 v' n (octV zs ++ octV ys)) : WrAt (w'.setCell ⟨W, 0, none⟩ v') B W (zs ++ ys) := by
  have hWl := hW.lt
  have hW2 : Blk w' W [v] 77 := hW.of_heap (hgr.block W hWl (fun h => ho h.symm))
  have hne : v'.ownBlock ≠ some W := own_apart hown hW2 (by decide)
  have hl := hown.1
  refine ⟨hBW, v', ?_, ?_, hne⟩
  · have := hW2.set 0 v'
    simpa using this
  · have h2 := own_only hown (Only.set (S := (· = W)) (Only.refl _ w') (p := ⟨W, 0, none⟩) (fun _ => rfl) v') (fun k hk e => hne (by rw [hk, e]))
    rw [octV_append]
    have e : n = (zs ++ ys).length := by rw [← octV_append] at hl; simp [octV] at hl; simp; omega
    rw [← e]
    exact h2
theorem ext_all (s : ByteArray) : s.extract 0 s.size = s := by simp
set_option maxHeartbeats 4000000 in
theorem wtext_calls (w : World) (B W : Nat) (zs : List Int) (s : ByteArray) (h : WrAt w B W zs) (hs : s.size ≤ 32) (hl : zs.length ≤ 90000) (hB : B ≤ w.heap.size) :
    Calls Try.prog 33 #[.pointer (some ⟨W, 0, none⟩), .string s] w fun e w' => e = .returned (.pointer (some ⟨W, 0, none⟩)) ∧ WrAt w' B W (zs ++ oc.layL s.size 2 ++ bo s) ∧ Below B w w' ∧ ∀ X cs t, Blk w X cs t → t ≠ 5 → X ≠ W → Blk w' X cs t := by
  obtain ⟨i0, hi, hz0, hz1, hz2⟩ := info_parts Try.info_clone_U8
  have HW := Lib.hid h
  have hx := ext_all s
  obtain ⟨z, hz⟩ : ∃ z, s.size = z := ⟨_, rfl⟩
  rw [hz] at hs hx ⊢
  clear h
  go_enter Try.func33, Try.ntmps33
  go_wp2_with fail
  refine (wnum_callsK _ B W zs z 2 HW.out (by omega) (by omega) (by omega) hB).mono ?_
  rintro e w2 ⟨rfl, hw, hb, hkp⟩
  have HKp := Lib.hid hkp
  have HB2 := Lib.hid hb
  have HW2 := Lib.hid hw
  have hBs : B ≤ w2.heap.size := Nat.le_trans hB hb.size
  obtain ⟨hBW, v, hWb, hown, hne⟩ := hw
  have HWb := Lib.hid hWb
  have HO := Lib.hid hown
  have c0 : w2.cell? ⟨W, 0, none⟩ = some v := hWb.cell 0
  have hle : (zs ++ oc.layL (z : Int) 2).length = zs.length + 2 := by rw [List.length_append, oc.layL_length]
  have hle2 : (zs ++ oc.layL (z : Int) 2).length ≤ 90002 := by omega
  obtain ⟨n, hn⟩ : ∃ n, (zs ++ oc.layL (z : Int) 2).length = n := ⟨_, rfl⟩
  rw [hn] at hle2 HO
  clear hWb hown hb hle hn hkp
  go_wp2_with (at_builtin; refine Lib.wpList_append_own_string _ rfl (.tmp 18) (.tmp 19) 27 9 rfl B 5 i0 Try.underlying27 Try.underlying9 hi hz0 hz1 hz2 v n (octV (zs ++ oc.layL (z : Int) 2)) rfl HO.out s rfl (by unfold maxLen; omega) (by omega) hBs ?_; intro v2 w3 hown2 hgr2 _; rw [octV_bo] at hown2; obtain ⟨A2, c2, rfl⟩ := ownsRow_slice hown2; have HO2 := Lib.hid hown2; have HWr := Lib.hid (store_wr2 hBW HWb.out hne hgr2 hown2); have HB3 := Lib.hid (HB2.out.grown hgr2 hBs (fun k hk => (HO.out.lt k hk).1)); have hW6 := HWb.out.of_heap (hgr2.block W HWb.out.lt (fun h => hne h.symm)); have HBs := Lib.hid (HB3.out.setCell (p := ⟨W, 0, none⟩) hBW (.slice A2 (n + s.size) c2)); have HKq := Lib.hid (show ∀ X cs t, Blk w X cs t → t ≠ 5 → X ≠ W → Blk (w3.setCell ⟨W, 0, none⟩ (.slice A2 (n + s.size) c2)) X cs t from fun X cs t hX ht hXW => keep_blk (HKp.out X cs t hX ht hXW) ht hXW (Below.refl _ _) HO.out hgr2); have k1 := hW6.free 0; have k2 : w3.cell? ⟨W, 0, none⟩ = some v := hW6.cell 0; clear hW6 hown2 hgr2)

  go_ret
  have a := HWr.out
  have b := HBs.out
  have c := HKq.out
  rw [hz] at a b c
  exact ⟨rfl, a, b, c⟩
/-- What is left when a text is read. -/
theorem run_str_octs (w : World) (A : Option Addr) (len cap : Nat) (zs : List Int) (ho : oc.Octs w A len cap zs) : (convert 27 9 (.slice A len cap)).run Try.prog w = .ok (.string (strOfNums zs)) w := by
  obtain ⟨rfl, hb, hc, hm, hA⟩ := ho
  by_cases h0 : zs.length = 0
  · obtain rfl : zs = [] := List.eq_nil_of_length_eq_zero h0
    rw [run_convert_bytes_string w 27 9 5 A _ cap Try.underlying27 Try.underlying5 Try.underlying9]
    cases A with
    | none => simp [Conv.bytesToString, strOfNums]; rfl
    | some x =>
      have hl : (loadCells x 0).run Try.prog w = .ok #[] w := by simpa using run_loadCells_list (P := Try.prog) w x [] (by simp)
      simp [Conv.bytesToString, strOfNums, hl]
      rfl
  · obtain ⟨b, o, rfl, hcl⟩ := hA.resolve_left h0
    refine run_convert_bytes_arg w 27 5 Try.underlying27 Try.underlying5 b o zs.length cap zs rfl ?_ 9 Try.underlying9
    intro i hi
    rw [hcl i hi]
    simp [List.getD]
theorem tkL_bd {st : Option (List Int)} (h : ∀ b ∈ st.getD [], 0 ≤ b ∧ b ≤ 255) (n : Nat) : ∀ b ∈ (tkL st n).1, 0 ≤ b ∧ b ≤ 255 := by
  intro b hb
  unfold tkL at hb
  split at hb
  · cases hb
  · split at hb
    · exact h b (List.mem_of_mem_take hb)
    · cases hb
theorem RSt.bd {w : World} {R : Nat} {st : Option (List Int)} (h : RSt w R st) : ∀ b ∈ st.getD [], 0 ≤ b ∧ b ≤ 255 := by
  obtain ⟨A, len, cap, h1, h2⟩ := h
  exact h2.2.1
set_option maxHeartbeats 4000000 in
theorem rtext_calls (w : World) (R : Nat) (st : Option (List Int)) (h : RSt w R st) :
    Calls Try.prog 37 #[.pointer (some ⟨R, 0, none⟩)] w fun e w' => e = .returned (.string (strOfNums (tkL (tkL st 2).2 (oc.oct (tkL st 2).1).toNat).1)) ∧ RSt w' R (tkL (tkL st 2).2 (oc.oct (tkL st 2).1).toNat).2 ∧ Only (· = R) w w' := by
  have HS := Lib.hid h
  have hob := oc.oct_bd _ (tkL_bd h.bd 2)
  have hle := tkL_len st 2
  obtain ⟨m, hm⟩ : ∃ m : Nat, oc.oct (tkL st 2).1 = (m : Int) := ⟨(oc.oct (tkL st 2).1).toNat, by omega⟩
  have hm2 : m ≤ 100000 := by
    have h3 : (256 : Int) ^ (tkL st 2).1.length ≤ 65536 := by
      have h4 : (tkL st 2).1.length = 0 ∨ (tkL st 2).1.length = 1 ∨ (tkL st 2).1.length = 2 := by omega
      rcases h4 with h4 | h4 | h4 <;> rw [h4] <;> decide
    omega
  have hw : wrap64 (oc.oct (tkL st 2).1) = (m : Int) := by rw [hm]; unfold wrap64; omega
  rw [hm, Int.toNat_natCast]
  clear h hob hle hm
  go_enter Try.func37, Try.ntmps37
  go_wp2_with fail
  refine (rnum_calls _ R 2 st HS.out (by omega)).mono ?_
  rintro e w2 ⟨rfl, hs2, ho2⟩
  rw [hw]
  have HS2 := Lib.hid hs2
  have HO2 := Lib.hid ho2
  clear hs2 ho2
  go_wp2_with fail
  refine (ptake_calls _ R m _ HS2.out hm2).mono ?_
  rintro e w3 ⟨A', len', cap', rfl, ho, hs3, ho3⟩
  have hcv := run_str_octs _ _ _ _ _ ho
  have HS3 := Lib.hid hs3
  have HO3 := Lib.hid (HO2.out.trans ho3 (fun _ _ h => h))
  clear ho hs3 ho3
  go_wp2
  go_ret
  exact ⟨rfl, HS3.out, HO3.out⟩
end Go.Proofs.Ytanfjiccilibcaa
