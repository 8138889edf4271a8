/- IntsOctets: the document's Get, and the law's walk. -/
import Derived.Test.YtebkikmgjmmnpaaIntsO
import Derived.Deep.RegionWith
namespace Go.Proofs.Ytebkikmgjmmnpaa
open Go.RowKit
set_option linter.unusedVariables false

def obits (l : List Int) : List Int := l.flatMap fun b => bitsOf b.toNat 8
theorem obits_nil : obits [] = [] := rfl
theorem obits_length (l : List Int) : (obits l).length = 8 * l.length := by
  induction l with
  | nil => rfl
  | cons b l ih => simp only [obits, List.flatMap_cons, List.length_append, bitsOf_length, List.length_cons] at *; omega
theorem obits_snoc (l : List Int) (b : Int) : obits (l ++ [b]) = obits l ++ bitsOf b.toNat 8 := by simp [obits]
theorem obits_bd (l : List Int) : ∀ b ∈ obits l, 0 ≤ b ∧ b ≤ 1 := by
  intro b hb
  simp only [obits, List.mem_flatMap] at hb
  obtain ⟨x, _, hx⟩ := hb
  exact bitsOf_bd _ _ b hx
theorem hor_obits (l : List Int) (h : ∀ b ∈ l, 0 ≤ b ∧ b ≤ 255) : hor (obits l) = oct l := by
  induction l with
  | nil => rfl
  | cons b l ih =>
    have hb := h b (by simp)
    have i := ih (fun x hx => h x (by simp [hx]))
    have e : obits (b :: l) = bitsOf b.toNat 8 ++ obits l := by simp [obits]
    rw [e, hor_append, hor_bitsOf, bitsOf_length, i]
    simp only [oct]
    omega
theorem take_snoc' (l : List Int) (k : Nat) (hk : k < l.length) : l.take (k + 1) = l.take k ++ [l[k]?.getD 0] := by
  rw [List.take_succ_eq_append_getElem hk]; simp [hk]

set_option maxHeartbeats 1000000 in
theorem rget_calls (a : Option Addr) (len cap : Nat) (zs : List Int) (w : World) (h : Octs w a len cap zs) :
    Calls Try.prog 23 #[.slice a len cap] w fun e w' => e = .returned (.int .i64 (wrap64 (oct (zs.take 8)))) ∧ Below w.heap.size w w' := by
  have hbk := Lib.hid (Octs_block h)
  obtain ⟨h1, h2, h3, h4, h5⟩ := h
  unfold maxLen at h4
  obtain ⟨i0, hi, hz0, hz1, hz2⟩ := info_parts Try.info_int
  obtain ⟨m, hm⟩ : ∃ m : Nat, m = min len 8 := ⟨_, rfl⟩
  have hm8 : m ≤ 8 ∧ m ≤ len ∧ (m = len ∨ m = 8) := by omega
  obtain ⟨hm8, hml, hmm⟩ := hm8
  have HT := Lib.hid (show zs.take m = zs.take 8 by
    rcases hmm with rfl | rfl
    · rw [List.take_of_length_le (by omega), List.take_of_length_le (by omega)]
    · rfl)
  have hge : m < len → m < 8 → False := fun x y => by rcases hmm with h | h <;> omega
  have HG := Lib.hid hge
  have H2 := Lib.hid h2
  have H1 := Lib.hid h1
  have H5 := Lib.hid h5
  clear hm hmm hge h2 h1 h5
  have hend : Hid (8 ≤ m ∨ len ≤ m) := Lib.hid (by by_cases x : m < len; by_cases y : m < 8; exact (HG.out x y).elim; all_goals omega)
  go_enter Try.func23, Try.ntmps23
  go_wp2_with fail
  go_loopw [3, 4] (fun v i wr => ∃ j : Nat, j ≤ m ∧ i = .int .i64 j ∧ wr.ownsRow w.heap.size 3 1 v (8 * j) ((obits (zs.take j)).map (.int .i64)) ∧ Below w.heap.size w wr) (fun _ i _ => m - (intOf i).toNat)
  case atStart => exact ⟨0, Nat.zero_le _, rfl, by simpa [obits] using World.ownsRow_nil _ _ _ _, Below.refl _ _⟩
  case round =>
    obtain ⟨j, hj, rfl, hown, hbel⟩ := hrel
    by_cases hlt : j < m
    · have hlen : 0 < len := by omega
      obtain ⟨b, o, ha, hc⟩ := (H5.out).resolve_left (by omega)
      have hyb := byte_at zs H2.out j
      obtain ⟨y, hy⟩ : ∃ y : Nat, zs[j]?.getD 0 = y := ⟨(zs[j]?.getD 0).toNat, by omega⟩
      have hcell := hc j (by omega)
      have hbs := hbk.out ⟨b, o, none⟩ ha hlen
      rw [hy] at hcell hyb
      have hsn := Lib.hid (take_snoc' zs j (by have := H1.out; omega))
      rw [hy] at hsn
      clear hc hbk hy
      subst ha
      obtain ⟨wo, hwo⟩ : ∃ wo : World, wo = wr := ⟨_, rfl⟩
      rw [← hwo] at hown hbel ⊢
      clear hwo wr
      go_wp2_with fail
      go_loopw [3, 5] (fun v k wr => ∃ t : Nat, t ≤ 8 ∧ k = .int .i64 t ∧ wr.ownsRow w.heap.size 3 1 v (8 * j + t) ((obits (zs.take j) ++ bitsOf y t).map (.int .i64)) ∧ Below w.heap.size w wr) (fun _ k _ => 8 - (intOf k).toNat)
      case atStart => exact ⟨0, Nat.zero_le _, rfl, by simpa [bitsOf] using hown, hbel⟩
      case round =>
        obtain ⟨t, ht, rfl, hown2, hbel2⟩ := hrel
        have hbw := hbel2.size
        have hcw : wr.cell? ⟨b, o + j, none⟩ = some (.int .u8 y) := by rw [hbel2.cell (p := ⟨b, o + j, none⟩) hbs]; exact hcell
        by_cases h8 : t < 8
        · go_wp2_with (first | (go_at_call 31; refine (bit_calls _ _ _ (by omega) (by omega)).mono ?_; rintro e w' ⟨rfl, rfl⟩) | (at_builtin; refine wpList_append1 rfl (.tmp 20) (.tmp 28) 39 rfl w.heap.size 3 i0 (.int .i64 0) 8 Try.underlying39 hi hz0 hz1 hz2 rfl u3 _ _ rfl hown2 rfl rfl (by omega) (by unfold maxLen; omega) (by omega) ?_; intro v' w1 hown1 hgr1 hne1))
          refine ⟨⟨t + 1, by omega, by go_num, ?_, hbel2.grown hgr1 hbw (fun j hj => (hown2.lt j hj).1)⟩, by simp [intOf]; omega⟩
          rw [bitsOf_succ, ← List.append_assoc, List.map_append]
          have e : bitL (y : Int) (t : Int) = ((y / 2 ^ t % 2 : Nat) : Int) := by unfold bitL; rw [U_of_nat y (by omega)]; simp
          rw [e] at hown1
          exact hown1
        · have ht8 : t = 8 := by omega
          subst ht8
          go_wp2
          refine ⟨⟨j + 1, by omega, by go_num, ?_, hbel2⟩, by simp [intOf]; omega⟩
          rw [hsn.out, obits_snoc, show 8 * (j + 1) = 8 * j + 8 by omega]
          exact hown2
    · have hjm : j = m := by omega
      subst hjm
      clear hlt
      have hl : (obits (zs.take j)).length = 8 * j := by rw [obits_length, List.length_take, Nat.min_eq_left (by have := H1.out; omega)]
      have HL := Lib.hid hl
      clear hl
      have hv := Lib.hid (hor_obits (zs.take j) (fun b hb => H2.out b (List.mem_of_mem_take hb)))
      by_cases hjl : j < len
      · have hj8 : 8 ≤ j := by have := hend.out; omega
        go_wp2_with fail
        refine (of_calls _ (obits (zs.take j)) w.heap.size _ (by rw [HL.out]; exact hown) (obits_bd _) (by rw [HL.out]; omega)).mono ?_
        rintro e w' ⟨rfl, rfl⟩
        go_wp2
        go_ret
        exact ⟨ret_eq (by rw [hv.out, HT.out]), hbel⟩
      · go_wp2_with fail
        refine (of_calls _ (obits (zs.take j)) w.heap.size _ (by rw [HL.out]; exact hown) (obits_bd _) (by rw [HL.out]; omega)).mono ?_
        rintro e w' ⟨rfl, rfl⟩
        go_wp2
        go_ret
        exact ⟨ret_eq (by rw [hv.out, HT.out]), hbel⟩
end Go.Proofs.Ytebkikmgjmmnpaa
