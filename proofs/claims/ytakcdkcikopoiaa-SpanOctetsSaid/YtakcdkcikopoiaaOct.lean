/- Octets and numbers (layer 1): the plain mathematics and the walks of Lay and Get, and of the document's where they are reached. -/
import Derived.Test.YtakcdkcikopoiaaLib
import Derived.Test.YtakcdkcikopoiaaBase
import Derived.WalkLawsBesides
import Derived.WalkSpells
import Derived.Lib.Hide
import Derived.OwnWalk
import Derived.Deep.RegionWith
import Derived.OpenShut
import Derived.Laws.BitsAllLaws
namespace Go.Proofs.Ytakcdkcikopoiaa.oc
open Go.RowKit
set_option linter.unusedVariables false

def cnt (n l : Int) : Int := min (max n 0) l
theorem cnt_bd (n l : Int) (h : 0 ≤ l) : 0 ≤ cnt n l ∧ cnt n l ≤ l := by unfold cnt; omega
/-- A number's 64 bits as a natural number. -/
def U (n : Int) : Nat := (n % 18446744073709551616).toNat
theorem U_lt (n : Int) : U n < 18446744073709551616 := by unfold U; omega
theorem U_cast (n : Int) : ((U n : Nat) : Int) = n % 18446744073709551616 := by unfold U; omega
theorem U_wrap (n : Int) : IntKind.u64.wrap n = ((U n : Nat) : Int) := by rw [IntKind.wrap_u64, U_cast]
theorem wrap_U (n : Int) (hn : n ≤ 9223372036854775807) (hn' : -9223372036854775808 ≤ n) : wrap64 ((U n : Nat) : Int) = n := by unfold wrap64 U; omega
theorem U_of_nat (x : Nat) (h : x < 18446744073709551616) : U ((x : Nat) : Int) = x := by unfold U; omega
theorem U_wrap64 (n : Int) : U (wrap64 n) = U n := by unfold wrap64 U; omega
theorem pow_le64 (c : Nat) (h : c ≤ 64) : 2 ^ c ≤ 18446744073709551616 := by
  have := Nat.pow_le_pow_right (show 0 < 2 by omega) h
  simpa using this
theorem pow_pos2 (c : Nat) : 0 < 2 ^ c := Nat.pow_pos (by omega)
/-- The number of c bits, least first. -/
def hor : List Int → Int
  | [] => 0
  | b :: l => b + 2 * hor l
theorem hor_bd (l : List Int) (h : ∀ b ∈ l, 0 ≤ b ∧ b ≤ 1) : 0 ≤ hor l ∧ hor l < 2 ^ l.length := by
  induction l with
  | nil => simp [hor]
  | cons b l ih =>
    have hb := h b (by simp)
    have i := ih (fun x hx => h x (by simp [hx]))
    simp only [hor, List.length_cons, Int.pow_succ]
    omega
theorem hor_append (l m : List Int) : hor (l ++ m) = hor l + 2 ^ l.length * hor m := by
  induction l with
  | nil => simp [hor]
  | cons b l ih =>
    simp only [List.cons_append, hor, ih, List.length_cons, Int.pow_succ]
    rw [Int.mul_add, ← Int.add_assoc, Int.mul_comm (2 ^ l.length) 2, Int.mul_assoc]
/-- Bit i of a number. -/
def bitL (n i : Int) : Int := ((U n / 2 ^ i.toNat % 2 : Nat) : Int)
theorem bitL_bd (n i : Int) : 0 ≤ bitL n i ∧ bitL n i ≤ 1 := by unfold bitL; omega
def bitsOf (x : Nat) (c : Nat) : List Int := (List.range c).map fun i => ((x / 2 ^ i % 2 : Nat) : Int)
theorem bitsOf_length (x c : Nat) : (bitsOf x c).length = c := by simp [bitsOf]
theorem bitsOf_succ (x c : Nat) : bitsOf x (c + 1) = bitsOf x c ++ [((x / 2 ^ c % 2 : Nat) : Int)] := by simp [bitsOf, List.range_succ]
theorem bitsOf_cons (x c : Nat) : bitsOf x (c + 1) = ((x % 2 : Nat) : Int) :: bitsOf (x / 2) c := by
  unfold bitsOf
  rw [List.range_succ_eq_map]
  simp only [List.map_cons, List.map_map, Nat.pow_zero, Nat.div_one]
  congr 1
  apply List.map_congr_left
  intro i _
  simp only [Function.comp, Nat.succ_eq_add_one]
  rw [Nat.pow_succ', Nat.div_div_eq_div_mul]
theorem bitsOf_bd (x c : Nat) : ∀ b ∈ bitsOf x c, 0 ≤ b ∧ b ≤ 1 := by
  intro b hb
  simp only [bitsOf, List.mem_map] at hb
  obtain ⟨i, _, rfl⟩ := hb
  omega
theorem hor_bitsOf (c : Nat) : ∀ x : Nat, hor (bitsOf x c) = ((x % 2 ^ c : Nat) : Int) := by
  induction c with
  | zero => intro x; simp [bitsOf, hor, Nat.mod_one]
  | succ c ih =>
    intro x
    rw [bitsOf_cons, hor, ih]
    rw [Nat.pow_succ', Nat.mod_mul]
    omega
theorem pow_cast (c : Nat) : ((2 ^ c : Nat) : Int) = 2 ^ c := by simp
theorem count_calls (n l : Int) (w : World) :
    Calls Try.prog 74 #[.int .i64 n, .int .i64 l] w fun e w' => e = .returned (.int .i64 (cnt n l)) ∧ w = w' := by
  go_enter Try.func74, Try.ntmps74
  go_wp2
  all_goals go_ret
  all_goals refine ⟨ret_eq ?_, rfl⟩
  all_goals (unfold cnt; omega)
theorem within_calls (n l : Int) (w : World) (h : 0 ≤ l) :
    Calls Try.prog 68 #[.int .i64 n, .int .i64 l] w fun e w' => e = .returned (.int .i64 (cnt n l)) ∧ w = w' := by
  go_enter Try.func68, Try.ntmps68
  go_wp2
  all_goals go_ret
  all_goals refine ⟨ret_eq ?_, rfl⟩
  all_goals (unfold cnt; omega)
def layL (n : Int) (m : Nat) : List Int := (List.range m).map fun i => ((U n / 2 ^ (8 * i) % 256 : Nat) : Int)
theorem layL_length (n : Int) (m : Nat) : (layL n m).length = m := by simp [layL]
theorem layL_succ (n : Int) (m : Nat) : layL n (m + 1) = layL n m ++ [((U n / 2 ^ (8 * m) % 256 : Nat) : Int)] := by simp [layL, List.range_succ]

theorem u_div (n : Int) (k : Nat) : IntKind.u64.wrap n / 2 ^ k % 256 = ((U n / 2 ^ k % 256 : Nat) : Int) := by rw [U_wrap]; simp
theorem Try.info_u8 : (Try.prog.info? 5).map (fun i => (i.zero, i.size, i.bytes)) = some (some (.int .u8 0), 1, 1) := by kernel_rfl
theorem Try.info_int : (Try.prog.info? 3).map (fun i => (i.zero, i.size, i.bytes)) = some (some (.int .i64 0), 1, 8) := by kernel_rfl

set_option maxHeartbeats 400000 in
theorem lay_calls (n size : Int) (w : World) (hn : n ≤ 9223372036854775807) (hn' : -9223372036854775808 ≤ n) :
    Calls Try.prog 67 #[.int .i64 n, .int .i64 size] w fun e w' =>
      ∃ v, e = .returned v ∧ w'.ownsRow w.heap.size 5 1 v (cnt size 8).toNat ((layL n (cnt size 8).toNat).map (.int .u8)) ∧ Below w.heap.size w w' := by
  have hb := cnt_bd size 8 (by omega)
  obtain ⟨m, hm⟩ : ∃ m : Nat, cnt size 8 = m := ⟨(cnt size 8).toNat, by omega⟩
  obtain ⟨i0, hi, hz0, hz1, hz2⟩ := info_parts Try.info_u8
  have hm8 : m ≤ 8 := by omega
  have HM := Lib.hid hm
  clear hm
  go_enter Try.func67, Try.ntmps67
  go_wp2_with (go_at_call 74; refine (count_calls _ _ _).mono ?_; rintro e w' ⟨rfl, rfl⟩)
  rw [HM.out]
  clear hb
  go_loopw [5, 9] (fun v i wr => ∃ k : Nat, k ≤ m ∧ i = .int .i64 k ∧ wr.ownsRow w.heap.size 5 1 v k ((layL n k).map (.int .u8)) ∧ Below w.heap.size w wr) (fun _ i _ => m - (intOf i).toNat)
  case atStart => exact ⟨0, Nat.zero_le _, rfl, World.ownsRow_nil _ _ _ _, Below.refl _ _⟩
  case round =>
    obtain ⟨k, hk, rfl, hown, hbel⟩ := hrel
    by_cases hlt : k < m
    · have hbw := hbel.size
      go_wp2_with (at_builtin; refine wpList_append1 rfl (.tmp 12) (.tmp 19) 51 rfl w.heap.size 5 i0 (.int .u8 0) 1 Try.underlying51 hi hz0 hz1 hz2 rfl u5 _ _ rfl hown rfl rfl (by omega) (by unfold maxLen; omega) (by omega) ?_; intro v' w1 hown1 hgr1 hne1)
      refine ⟨⟨k + 1, by omega, by go_num, ?_, hbel.grown hgr1 hbw (fun j hj => (hown.lt j hj).1)⟩, by simp [intOf]; omega⟩
      rw [layL_succ, List.map_append, ← u_div]
      exact hown1
    · go_wp2
      go_ret
      have hkm : k = m := by omega
      subst hkm
      refine ⟨_, rfl, ?_, hbel⟩
      rw [HM.out, Int.toNat_natCast]
      exact hown
theorem bit_calls (n i : Int) (w : World) (hi0 : 0 ≤ i) (hi : i ≤ 63) :
    Calls Try.prog 65 #[.int .i64 n, .int .i64 i] w fun e w' => e = .returned (.int .i64 (bitL n i)) ∧ w = w' := by
  obtain ⟨m, rfl⟩ := Int.eq_ofNat_of_zero_le hi0
  have hU := U_lt n
  have hUw := Lib.hid (U_wrap n)
  go_enter Try.func65, Try.ntmps65
  go_wp2
  rw [hUw.out]
  go_loop [1, 5] (fun i u => ∃ k x : Nat, k ≤ m ∧ x < 18446744073709551616 ∧ i = .int .i64 k ∧ u = .int .u64 x ∧ Hid (x = U n / 2 ^ (m - k))) (fun i _ => (intOf i).toNat)
  case atStart => exact ⟨m, U n, Nat.le_refl _, hU, rfl, rfl, Lib.hid (by simp)⟩
  case round =>
    obtain ⟨k, x, hk, hx, rfl, rfl, hX⟩ := hrel
    by_cases hlt : 0 < k
    · go_wp2
      refine ⟨⟨k - 1, x / 2, by omega, by omega, by go_num, by go_num, Lib.hid ?_⟩, by simp [intOf]; omega⟩
      have : m - (k - 1) = m - k + 1 := by omega
      rw [this, Nat.pow_succ, ← Nat.div_div_eq_div_mul, ← hX.out]
    · have hk0 : k = 0 := by omega
      subst hk0
      go_wp2
      all_goals go_ret
      have h2 := hX.out
      exact ⟨ret_eq (by unfold bitL; rw [Nat.sub_zero] at h2; rw [Int.toNat_natCast, ← h2]; simp), rfl⟩
theorem hor_drop (l : List Int) (k : Nat) (hk : k < l.length) : hor (l.drop k) = l[k]?.getD 0 + 2 * hor (l.drop (k + 1)) := by
  rw [List.drop_eq_getElem_cons hk]; simp [hor, hk]
theorem bit_at (l : List Int) (h : ∀ b ∈ l, 0 ≤ b ∧ b ≤ 1) (k : Nat) (hk : k < l.length) : 0 ≤ l[k]?.getD 0 ∧ l[k]?.getD 0 ≤ 1 := by
  have : l[k]?.getD 0 = l[k] := by simp [hk]
  rw [this]; exact h _ (List.getElem_mem hk)
theorem hor_64 (l : List Int) (h : ∀ b ∈ l, 0 ≤ b ∧ b ≤ 1) (hl : l.length ≤ 64) : 0 ≤ hor l ∧ hor l < 18446744073709551616 := by
  have := hor_bd l h
  have e := pow_cast l.length
  have := pow_le64 l.length hl
  omega
theorem hor_drop_bd (l : List Int) (h : ∀ b ∈ l, 0 ≤ b ∧ b ≤ 1) (hl : l.length ≤ 64) (k : Nat) : 0 ≤ hor (l.drop k) ∧ hor (l.drop k) < 18446744073709551616 :=
  hor_64 _ (fun b hb => h b (List.mem_of_mem_drop hb)) (by simp; omega)

set_option maxHeartbeats 400000 in
theorem of_calls (v : Value) (l : List Int) (base : Nat) (w : World) (hown : w.ownsRow base 3 1 v l.length (l.map (.int .i64))) (hbit : ∀ b ∈ l, 0 ≤ b ∧ b ≤ 1) (hlen : l.length ≤ 64) :
    Calls Try.prog 66 #[v] w fun e w' => e = .returned (.int .i64 (wrap64 (hor l))) ∧ w = w' := by
  rcases ownsRow_form hown with ⟨rfl, hn⟩ | ⟨g, cap, rfl, _, _, _, _⟩
  · have hl : l = [] := List.eq_nil_of_length_eq_zero hn
    subst hl
    clear hown hn
    go_enter Try.func66, Try.ntmps66
    go_wp2
    refine wp_loop_rounds 1 ?_
    rw [rounds_succ]
    go_wp2
    all_goals go_ret
    exact ⟨ret_eq (by simp [hor, wrap64]), rfl⟩
  · have hc : ∀ j, j < l.length → w.cell? ⟨g, j, none⟩ = some (.int .i64 (l[j]?.getD 0)) := fun j hj => by
      rw [ownsRow_cell hown j hj]; simp [hj]
    have HC := Lib.hid hc
    clear hc hown
    have HB := Lib.hid hbit
    clear hbit
    go_enter Try.func66, Try.ntmps66
    go_wp2
    go_loop [3, 4] (fun u i => ∃ (k : Nat) (x : Int), k ≤ l.length ∧ 0 ≤ x ∧ x < 18446744073709551616 ∧ i = .int .i64 ((k : Int) - 1) ∧ u = .int .u64 x ∧ Hid (x = hor (l.drop k))) (fun _ i => (intOf i + 1).toNat)
    case atStart => exact ⟨l.length, 0, Nat.le_refl _, by omega, by omega, rfl, rfl, Lib.hid (by simp [hor])⟩
    case round =>
      obtain ⟨k, x, hk, hx0, hx1, rfl, rfl, hX⟩ := hrel
      by_cases hlt : 0 < k
      · obtain ⟨m, rfl⟩ : ∃ m, k = m + 1 := ⟨k - 1, by omega⟩
        have hcell := HC.out m (by omega)
        have hbd := bit_at l HB.out m (by omega)
        have hd := hor_drop l m (by omega)
        have hdd := hor_drop_bd l HB.out hlen m
        have hle : 2 * x + l[m]?.getD 0 < 18446744073709551616 := by rw [hX.out]; omega
        rw [← hX.out] at hd
        generalize l[m]?.getD 0 = y at *
        have hd' := Lib.hid hd
        clear hd hdd
        have hi : ((m + 1 : Nat) : Int) - 1 = (m : Int) := by omega
        rw [hi]
        clear hi
        go_wp2
        refine ⟨⟨m, 2 * x + y, by omega, by omega, by omega, by go_num, by go_num, Lib.hid (by have := hd'.out; omega)⟩, by simp [intOf]⟩
      · have hk0 : k = 0 := by omega
        subst hk0
        go_wp2
        all_goals go_ret
        have h2 := hX.out
        exact ⟨ret_eq (by rw [h2]; rfl), rfl⟩
/-- The number of octets, the least first. -/
def oct : List Int → Int
  | [] => 0
  | b :: l => b + 256 * oct l
theorem oct_append (l m : List Int) : oct (l ++ m) = oct l + 256 ^ l.length * oct m := by
  induction l with
  | nil => simp [oct]
  | cons b l ih =>
    simp only [List.cons_append, oct, ih, List.length_cons, Int.pow_succ]
    rw [Int.mul_add, ← Int.add_assoc, Int.mul_comm (256 ^ l.length) 256, Int.mul_assoc]
theorem oct_bd (l : List Int) (h : ∀ b ∈ l, 0 ≤ b ∧ b ≤ 255) : 0 ≤ oct l ∧ oct l < 256 ^ l.length := by
  induction l with
  | nil => simp [oct]
  | cons b l ih =>
    have hb := h b (by simp)
    have i := ih (fun x hx => h x (by simp [hx]))
    simp only [oct, List.length_cons, Int.pow_succ]
    omega
theorem pow256 (k : Nat) : (256 : Int) ^ k = 2 ^ (8 * k) := by
  rw [Int.pow_mul]; rfl
theorem pow256n (k : Nat) : 256 ^ k = 2 ^ (8 * k) := by
  rw [Nat.pow_mul]
theorem oct_lay (n : Int) (m : Nat) : oct (layL n m) = ((U n % 2 ^ (8 * m) : Nat) : Int) := by
  induction m with
  | zero => simp [layL, oct, Nat.mod_one]
  | succ m ih =>
    rw [layL_succ, oct_append, ih, layL_length]
    simp only [oct]
    rw [pow256, show 8 * (m + 1) = 8 * m + 8 by omega, Nat.pow_add, Nat.mod_mul]
    have := pow_cast (8 * m)
    rw [← this]
    simp
theorem oct_take_succ (l : List Int) (k : Nat) (hk : k < l.length) : oct (l.take (k + 1)) = oct (l.take k) + 256 ^ k * (l[k]?.getD 0) := by
  have : l.take (k + 1) = l.take k ++ [l[k]?.getD 0] := by
    rw [List.take_succ_eq_append_getElem hk]; simp [hk]
  rw [this, oct_append]
  simp [oct, Nat.min_eq_left (Nat.le_of_lt hk)]

/-- The least 'k' of eight bits, from the greatest down: what the inner loop of the document's Lay has made. -/
theorem horn (X m p : Nat) : X / 2 ^ (m + 1) % 2 ^ p * 2 + X / 2 ^ m % 2 = X / 2 ^ m % 2 ^ (p + 1) := by
  rw [Nat.pow_succ, ← Nat.div_div_eq_div_mul, Nat.pow_succ', Nat.mod_mul]
  omega

/-- A slice of octets as it is read: empty, or a row of cells. -/
def Octs (w : World) (a : Option Addr) (len cap : Nat) (zs : List Int) : Prop :=
  zs.length = len ∧ (∀ b ∈ zs, 0 ≤ b ∧ b ≤ 255) ∧ len ≤ cap ∧ cap ≤ maxLen ∧ (len = 0 ∨ ∃ b o, a = some ⟨b, o, none⟩ ∧ ∀ i, i < len → w.cell? ⟨b, o + i, none⟩ = some (.int .u8 (zs[i]?.getD 0)))
theorem Octs_of_row {w : World} {a : Option Addr} {len cap : Nat} {zs : List Int} (h : IsRow .u8 w a len cap zs) : Octs w a len cap (zs.take len) := by
  rcases h with ⟨rfl, rfl, rfl, rfl⟩ | ⟨x, rfl, h1, h2, h3, h4, h5⟩
  · exact ⟨rfl, by simp, Nat.le_refl _, by unfold maxLen; omega, .inl rfl⟩
  · refine ⟨by simp; omega, fun b hb => wf_u8 (h5 b (List.mem_of_mem_take hb)), h1, h2, ?_⟩
    by_cases hc : 0 < len
    · obtain ⟨b, o, rfl, hcell⟩ := ints_at h4 (by omega)
      refine .inr ⟨b, o, rfl, fun i hi => ?_⟩
      rw [hcell i (by omega)]
      simp [List.getD, hi]
    · exact .inl (by omega)
theorem Octs_of_own {w : World} {base n : Nat} {e : TypeId} {v : Value} {zs : List Int} (h : w.ownsRow base e 1 v n (zs.map (.int .u8))) (hb : ∀ b ∈ zs, 0 ≤ b ∧ b ≤ 255) : ∃ a cap, v = .slice a n cap ∧ Octs w a n cap zs := by
  have hl : zs.length = n := by have := ownsRow_len h; simpa using this
  rcases ownsRow_form h with ⟨rfl, rfl⟩ | ⟨g, cap, rfl, _, _, h1, h2⟩
  · exact ⟨none, 0, rfl, hl, hb, Nat.le_refl _, by unfold maxLen; omega, .inl rfl⟩
  · refine ⟨_, cap, rfl, hl, hb, h1, h2, .inr ⟨g, 0, rfl, fun i hi => ?_⟩⟩
    rw [Nat.zero_add, ownsRow_cell h i hi]
    simp [show i < zs.length by omega]
theorem layL_bd (n : Int) (m : Nat) : ∀ b ∈ layL n m, 0 ≤ b ∧ b ≤ 255 := by
  intro b hb
  simp only [layL, List.mem_map] at hb
  obtain ⟨i, _, rfl⟩ := hb
  omega
theorem Octs_below {w w' : World} {a : Option Addr} {len cap : Nat} {zs : List Int} (h : Octs w a len cap zs) {B : Nat} (hb : Below B w w') (ha : ∀ (x : Addr), a = some x → 0 < len → x.block < B) : Octs w' a len cap zs := by
  obtain ⟨h1, h2, h3, h4, h5⟩ := h
  refine ⟨h1, h2, h3, h4, ?_⟩
  rcases h5 with h5 | ⟨b, o, rfl, hc⟩
  · exact .inl h5
  · by_cases h0 : 0 < len
    · refine .inr ⟨b, o, rfl, fun i hi => ?_⟩
      rw [hb.cell (p := ⟨b, o + i, none⟩) (ha ⟨b, o, none⟩ rfl h0)]
      exact hc i hi
    · exact .inl (by omega)
theorem Octs_block {w : World} {a : Option Addr} {len cap : Nat} {zs : List Int} (h : Octs w a len cap zs) : ∀ x, a = some x → 0 < len → x.block < w.heap.size := by
  obtain ⟨h1, h2, h3, h4, h5⟩ := h
  intro x hx h0
  rcases h5 with h5 | ⟨b, o, rfl, hc⟩
  · omega
  · cases hx
    exact World.block_lt_of_cell? w _ (hc 0 h0)

theorem byte_at (zs : List Int) (h : ∀ b ∈ zs, 0 ≤ b ∧ b ≤ 255) (k : Nat) : 0 ≤ zs[k]?.getD 0 ∧ zs[k]?.getD 0 ≤ 255 := by
  by_cases hk : k < zs.length
  · have : zs[k]?.getD 0 = zs[k] := by simp [hk]
    rw [this]; exact h _ (List.getElem_mem hk)
  · rw [List.getElem?_eq_none (by omega)]; simp
theorem or_oct_lt (x y k : Nat) (hk : k < 8) (hx : x < 256 ^ k) (hy : y ≤ 255) : x + 256 ^ k * y < 18446744073709551616 := by
  have h1 : 256 ^ k * y ≤ 256 ^ k * 255 := Nat.mul_le_mul_left _ hy
  have h2 : 256 ^ (k + 1) ≤ 256 ^ 8 := Nat.pow_le_pow_right (by omega) (by omega)
  rw [Nat.pow_succ] at h2
  have h3 : 256 ^ 8 = 18446744073709551616 := by decide
  omega
theorem or_oct (x y k : Nat) (hk : k < 8) (hx : x < 256 ^ k) (hy : y ≤ 255) : bits .or .u64 (x : Int) (IntKind.u64.wrap ((y : Int) * 2 ^ (8 * k))) = ((x + 256 ^ k * y : Nat) : Int) := by
  have hl := or_oct_lt x y k hk hx hy
  have e1 : IntKind.u64.wrap ((y : Int) * 2 ^ (8 * k)) = ((y * 256 ^ k : Nat) : Int) := by
    have : (y : Int) * 2 ^ (8 * k) = ((y * 256 ^ k : Nat) : Int) := by rw [pow256n]; simp
    rw [this, IntWalk.u64_in _ (by rw [Nat.mul_comm]; omega)]
  rw [e1, u64_or_nat _ _ (by omega) (by rw [Nat.mul_comm]; omega), Nat.or_comm, nat_join (8 * k) _ _ (by rw [pow256n]; exact Nat.mul_mod_left _ _) (by rw [← pow256n]; exact hx)]
  rw [Nat.mul_comm, Nat.add_comm]

set_option maxHeartbeats 400000 in
theorem get_calls (a : Option Addr) (len cap : Nat) (zs : List Int) (w : World) (h : Octs w a len cap zs) :
    Calls Try.prog 62 #[.slice a len cap] w fun e w' => e = .returned (.int .i64 (wrap64 (oct (zs.take 8)))) ∧ w = w' := by
  obtain ⟨h1, h2, h3, h4, h5⟩ := h
  unfold maxLen at h4
  rcases h5 with rfl | ⟨b, o, rfl, hc⟩
  · have hz : zs = [] := List.eq_nil_of_length_eq_zero h1
    subst hz
    have e0 : cnt 0 8 = 0 := by decide
    clear h1 h2
    go_enter Try.func62, Try.ntmps62
    go_wp2_with (go_at_call 74; refine (count_calls _ _ _).mono ?_; rintro e w' ⟨rfl, rfl⟩)
    refine wp_loop_rounds 1 ?_
    rw [rounds_succ]
    go_wp2
    all_goals go_ret
    exact ⟨ret_eq (by simp [oct, wrap64]), rfl⟩
  · obtain ⟨m, hm⟩ : ∃ m : Nat, cnt len 8 = m := ⟨(cnt len 8).toNat, by have := cnt_bd len 8 (by omega); omega⟩
    have hml : m ≤ len ∧ m ≤ 8 ∧ (m = len ∨ m = 8) := by unfold cnt at hm; omega
    obtain ⟨hml, hm8, hmm⟩ := hml
    have HM := Lib.hid hm
    have HC := Lib.hid hc
    clear hm hc
    have HB := Lib.hid h2
    have HZ := Lib.hid h1
    clear h2 h1 hmm
    go_enter Try.func62, Try.ntmps62
    go_wp2_with fail
    refine (count_calls _ _ _).mono ?_
    rintro e w' ⟨rfl, rfl⟩
    rw [HM.out]
    go_wp2
    go_loop [3, 12] (fun u c => ∃ k x : Nat, k ≤ m ∧ x < 18446744073709551616 ∧ c = .int .i64 k ∧ u = .int .u64 x ∧ Hid ((x : Int) = oct (zs.take k))) (fun _ c => m - (intOf c).toNat)
    case atStart => exact ⟨0, 0, Nat.zero_le _, by omega, rfl, rfl, Lib.hid (by simp [oct])⟩
    case round =>
      obtain ⟨k, x, hk, hx, rfl, rfl, hX⟩ := hrel
      by_cases hlt : k < m
      · have hcell := HC.out k (by omega)
        have hyb := byte_at zs HB.out k
        obtain ⟨y, hy⟩ : ∃ y : Nat, zs[k]?.getD 0 = y := ⟨(zs[k]?.getD 0).toNat, by omega⟩
        rw [hy] at hcell hyb
        have hxk : x < 256 ^ k := by
          have h1 := oct_bd (zs.take k) (fun b hb => HB.out b (List.mem_of_mem_take hb))
          rw [← hX.out, List.length_take, Nat.min_eq_left (by have := HZ.out; omega)] at h1
          have e2 : ((256 ^ k : Nat) : Int) = 256 ^ k := by simp
          omega
        have hor := Lib.hid (or_oct x y k (by omega) hxk (by omega))
        have hlt64 : x + 256 ^ k * y < 18446744073709551616 := or_oct_lt x y k (by omega) hxk (by omega)
        have hs := Lib.hid (oct_take_succ zs k (by have := HZ.out; omega))
        rw [hy] at hs
        clear hy hxk
        have h64 := Lib.hid hlt64
        clear hlt64
        go_wp2
        rw [hor.out]
        refine ⟨⟨k + 1, x + 256 ^ k * y, by omega, h64.out, by go_num, rfl, Lib.hid ?_⟩, by simp [intOf]; omega⟩
        rw [hs.out, ← hX.out]
        simp
      · have hkm : k = m := by omega
        subst hkm
        go_wp2
        all_goals go_ret
        have h2 := hX.out
        refine ⟨ret_eq ?_, rfl⟩
        have h3 : zs.take k = zs.take 8 := by
          have h1 := HZ.out
          have h4 := HM.out
          by_cases h8 : k = 8
          · rw [h8]
          · have : k = len := by unfold cnt at h4; omega
            rw [List.take_of_length_le (by omega), List.take_of_length_le (by omega)]
        rw [h2, h3]
set_option maxHeartbeats 1000000 in
theorem rlay_calls (n size : Int) (w : World) :
    Calls Try.prog 52 #[.int .i64 n, .int .i64 size] w fun e w' =>
      ∃ v, e = .returned v ∧ w'.ownsRow w.heap.size 5 1 v (cnt size 8).toNat ((layL n (cnt size 8).toNat).map (.int .u8)) ∧ Below w.heap.size w w' := by
  have hb := cnt_bd size 8 (by omega)
  obtain ⟨m, hm⟩ : ∃ m : Nat, cnt size 8 = m := ⟨(cnt size 8).toNat, by omega⟩
  obtain ⟨i0, hi, hz0, hz1, hz2⟩ := info_parts Try.info_u8
  have hm8 : m ≤ 8 := by omega
  have HM := Lib.hid hm
  clear hm hb
  go_enter Try.func52, Try.ntmps52
  go_wp2
  go_loopw [5, 6] (fun v i wr => ∃ j : Nat, j ≤ m ∧ i = .int .i64 j ∧ wr.ownsRow w.heap.size 5 1 v j ((layL n j).map (.int .u8)) ∧ Below w.heap.size w wr) (fun _ i _ => m - (intOf i).toNat)
  case atStart => exact ⟨0, Nat.zero_le _, rfl, World.ownsRow_nil _ _ _ _, Below.refl _ _⟩
  case round =>
    obtain ⟨j, hj, rfl, hown, hbel⟩ := hrel
    have hbw := hbel.size
    by_cases hlt : j < m
    · go_wp2_with fail
      refine (within_calls _ _ _ (by omega)).mono ?_
      rintro e w' ⟨rfl, rfl⟩
      rw [HM.out]
      go_wp2_with fail
      go_loop [7, 8] (fun c k => ∃ (t x : Nat), t ≤ 8 ∧ x ≤ 255 ∧ k = .int .i64 ((t : Int) - 1) ∧ c = .int .i64 x ∧ Hid (x = U n / 2 ^ (8 * j + t) % 2 ^ (8 - t))) (fun _ k => (intOf k + 1).toNat)
      case atStart => exact ⟨8, 0, by omega, by omega, rfl, rfl, Lib.hid (by simp [Nat.mod_one])⟩
      case round =>
        obtain ⟨t, x, ht, hx, rfl, rfl, hX⟩ := hrel
        by_cases h0 : 0 < t
        · obtain ⟨s, rfl⟩ : ∃ s, t = s + 1 := ⟨t - 1, by omega⟩
          have hi1 : ((s + 1 : Nat) : Int) - 1 = (s : Int) := by omega
          rw [hi1]
          clear hi1
          obtain ⟨y, hy⟩ : ∃ y : Nat, bitL n (8 * (j : Int) + (s : Int)) = y := ⟨(bitL n (8 * (j : Int) + (s : Int))).toNat, by have := bitL_bd n (8 * (j : Int) + (s : Int)); omega⟩
          have hy1 : y ≤ 1 := by have := bitL_bd n (8 * (j : Int) + (s : Int)); omega
          have HY := Lib.hid hy
          clear hy
          have hn := horn (U n) (8 * j + s) (8 - (s + 1))
          rw [show 8 * j + s + 1 = 8 * j + (s + 1) by omega, ← hX.out, show 8 - (s + 1) + 1 = 8 - s by omega] at hn
          have hy2 : U n / 2 ^ (8 * j + s) % 2 = y := by
            have h := HY.out
            unfold bitL at h
            have e : (8 * (j : Int) + (s : Int)).toNat = 8 * j + s := by omega
            rw [e] at h
            omega
          rw [hy2] at hn
          have hle : x * 2 + y ≤ 255 := by
            rw [hn]
            have h1 : U n / 2 ^ (8 * j + s) % 2 ^ (8 - s) < 2 ^ (8 - s) := Nat.mod_lt _ (pow_pos2 _)
            have h2 : 2 ^ (8 - s) ≤ 2 ^ 8 := Nat.pow_le_pow_right (by omega) (by omega)
            omega
          have HN := Lib.hid hn
          clear hn hy2
          go_wp2_with fail
          refine (bit_calls _ _ _ (by omega) (by omega)).mono ?_
          rintro e w' ⟨rfl, rfl⟩
          rw [HY.out]
          go_wp2
          exact ⟨⟨s, x * 2 + y, by omega, hle, by go_num, by go_num, HN⟩, by simp [intOf]⟩
        · have ht0 : t = 0 := by omega
          subst ht0
          go_wp2_with (at_builtin; refine wpList_append1 rfl (.tmp 28) (.tmp 31) 51 rfl w.heap.size 5 i0 (.int .u8 0) 1 Try.underlying51 hi hz0 hz1 hz2 rfl u5 _ _ rfl hown rfl rfl (by omega) (by unfold maxLen; omega) (by omega) ?_; intro v' w1 hown1 hgr1 hne1)
          refine ⟨⟨j + 1, by omega, by go_num, ?_, hbel.grown hgr1 hbw (fun j hj => (hown.lt j hj).1)⟩, by simp [intOf]; omega⟩
          rw [layL_succ, List.map_append]
          have h2 := hX.out
          simp only [Nat.add_zero, Nat.sub_zero] at h2
          rw [show (2 : Nat) ^ 8 = 256 from rfl] at h2
          rw [← h2]
          exact hown1
    · have hjm : j = m := by omega
      subst hjm
      go_wp2_with fail
      refine (within_calls _ _ _ (by omega)).mono ?_
      rintro e w' ⟨rfl, rfl⟩
      rw [HM.out]
      go_wp2
      go_ret
      refine ⟨_, rfl, ?_, hbel⟩
      rw [HM.out, Int.toNat_natCast]
      exact hown
def obits (l : List Int) : List Int := l.flatMap fun b => bitsOf b.toNat 8
theorem obits_nil : obits [] = [] := rfl
theorem obits_length (l : List Int) : (obits l).length = 8 * l.length := by
  induction l with
  | nil => rfl
  | cons b l ih => simp only [obits, List.flatMap_cons, List.length_append, bitsOf_length, List.length_cons] at *; omega
theorem obits_snoc (l : List Int) (b : Int) : obits (l ++ [b]) = obits l ++ bitsOf b.toNat 8 := by simp [obits]
theorem obits_bd (l : List Int) : ∀ b ∈ obits l, 0 ≤ b ∧ b ≤ 1 := by
  intro b hb
  simp only [obits, List.mem_flatMap] at hb
  obtain ⟨x, _, hx⟩ := hb
  exact bitsOf_bd _ _ b hx
theorem hor_obits (l : List Int) (h : ∀ b ∈ l, 0 ≤ b ∧ b ≤ 255) : hor (obits l) = oct l := by
  induction l with
  | nil => rfl
  | cons b l ih =>
    have hb := h b (by simp)
    have i := ih (fun x hx => h x (by simp [hx]))
    have e : obits (b :: l) = bitsOf b.toNat 8 ++ obits l := by simp [obits]
    rw [e, hor_append, hor_bitsOf, bitsOf_length, i]
    simp only [oct]
    omega
theorem take_snoc' (l : List Int) (k : Nat) (hk : k < l.length) : l.take (k + 1) = l.take k ++ [l[k]?.getD 0] := by
  rw [List.take_succ_eq_append_getElem hk]; simp [hk]

set_option maxRecDepth 8000 in
set_option maxHeartbeats 1000000 in
theorem rget_calls (a : Option Addr) (len cap : Nat) (zs : List Int) (w : World) (h : Octs w a len cap zs) :
    Calls Try.prog 48 #[.slice a len cap] w fun e w' => e = .returned (.int .i64 (wrap64 (oct (zs.take 8)))) ∧ Below w.heap.size w w' := by
  have hbk := Lib.hid (Octs_block h)
  obtain ⟨h1, h2, h3, h4, h5⟩ := h
  unfold maxLen at h4
  obtain ⟨i0, hi, hz0, hz1, hz2⟩ := info_parts Try.info_int
  obtain ⟨m, hm⟩ : ∃ m : Nat, m = min len 8 := ⟨_, rfl⟩
  have hm8 : m ≤ 8 ∧ m ≤ len ∧ (m = len ∨ m = 8) := by omega
  obtain ⟨hm8, hml, hmm⟩ := hm8
  have HT := Lib.hid (show zs.take m = zs.take 8 by
    rcases hmm with rfl | rfl
    · rw [List.take_of_length_le (by omega), List.take_of_length_le (by omega)]
    · rfl)
  have hge : m < len → m < 8 → False := fun x y => by rcases hmm with h | h <;> omega
  have HG := Lib.hid hge
  have H2 := Lib.hid h2
  have H1 := Lib.hid h1
  have H5 := Lib.hid h5
  clear hm hmm hge h2 h1 h5
  have hend : Hid (8 ≤ m ∨ len ≤ m) := Lib.hid (by by_cases x : m < len; by_cases y : m < 8; exact (HG.out x y).elim; all_goals omega)
  go_enter Try.func48, Try.ntmps48
  go_wp2_with fail
  go_loopw [3, 4] (fun v i wr => ∃ j : Nat, j ≤ m ∧ i = .int .i64 j ∧ wr.ownsRow w.heap.size 3 1 v (8 * j) ((obits (zs.take j)).map (.int .i64)) ∧ Below w.heap.size w wr) (fun _ i _ => m - (intOf i).toNat)
  case atStart => exact ⟨0, Nat.zero_le _, rfl, by simpa [obits] using World.ownsRow_nil _ _ _ _, Below.refl _ _⟩
  case round =>
    obtain ⟨j, hj, rfl, hown, hbel⟩ := hrel
    by_cases hlt : j < m
    · have hlen : 0 < len := by omega
      obtain ⟨b, o, ha, hc⟩ := (H5.out).resolve_left (by omega)
      have hyb := byte_at zs H2.out j
      obtain ⟨y, hy⟩ : ∃ y : Nat, zs[j]?.getD 0 = y := ⟨(zs[j]?.getD 0).toNat, by omega⟩
      have hcell := hc j (by omega)
      have hbs := hbk.out ⟨b, o, none⟩ ha hlen
      rw [hy] at hcell hyb
      have hsn := Lib.hid (take_snoc' zs j (by have := H1.out; omega))
      rw [hy] at hsn
      clear hc hbk hy
      subst ha
      obtain ⟨wo, hwo⟩ : ∃ wo : World, wo = wr := ⟨_, rfl⟩
      rw [← hwo] at hown hbel ⊢
      clear hwo wr
      go_wp2_with fail
      go_loopw [3, 5] (fun v k wr => ∃ t : Nat, t ≤ 8 ∧ k = .int .i64 t ∧ wr.ownsRow w.heap.size 3 1 v (8 * j + t) ((obits (zs.take j) ++ bitsOf y t).map (.int .i64)) ∧ Below w.heap.size w wr) (fun _ k _ => 8 - (intOf k).toNat)
      case atStart => exact ⟨0, Nat.zero_le _, rfl, by simpa [bitsOf] using hown, hbel⟩
      case round =>
        obtain ⟨t, ht, rfl, hown2, hbel2⟩ := hrel
        have hbw := hbel2.size
        have hcw : wr.cell? ⟨b, o + j, none⟩ = some (.int .u8 y) := by rw [hbel2.cell (p := ⟨b, o + j, none⟩) hbs]; exact hcell
        by_cases h8 : t < 8
        · go_wp2_with (first | (go_at_call 65; refine (bit_calls _ _ _ (by omega) (by omega)).mono ?_; rintro e w' ⟨rfl, rfl⟩) | (at_builtin; refine wpList_append1 rfl (.tmp 20) (.tmp 28) 93 rfl w.heap.size 3 i0 (.int .i64 0) 8 Try.underlying93 hi hz0 hz1 hz2 rfl u3 _ _ rfl hown2 rfl rfl (by omega) (by unfold maxLen; omega) (by omega) ?_; intro v' w1 hown1 hgr1 hne1))
          refine ⟨⟨t + 1, by omega, by go_num, ?_, hbel2.grown hgr1 hbw (fun j hj => (hown2.lt j hj).1)⟩, by simp [intOf]; omega⟩
          rw [bitsOf_succ, ← List.append_assoc, List.map_append]
          have e : bitL (y : Int) (t : Int) = ((y / 2 ^ t % 2 : Nat) : Int) := by unfold bitL; rw [U_of_nat y (by omega)]; simp
          rw [e] at hown1
          exact hown1
        · have ht8 : t = 8 := by omega
          subst ht8
          go_wp2
          refine ⟨⟨j + 1, by omega, by go_num, ?_, hbel2⟩, by simp [intOf]; omega⟩
          rw [hsn.out, obits_snoc, show 8 * (j + 1) = 8 * j + 8 by omega]
          exact hown2
    · have hjm : j = m := by omega
      subst hjm
      clear hlt
      have hl : (obits (zs.take j)).length = 8 * j := by rw [obits_length, List.length_take, Nat.min_eq_left (by have := H1.out; omega)]
      have HL := Lib.hid hl
      clear hl
      have hv := Lib.hid (hor_obits (zs.take j) (fun b hb => H2.out b (List.mem_of_mem_take hb)))
      by_cases hjl : j < len
      · have hj8 : 8 ≤ j := by have := hend.out; omega
        go_wp2_with fail
        refine (of_calls _ (obits (zs.take j)) w.heap.size _ (by rw [HL.out]; exact hown) (obits_bd _) (by rw [HL.out]; omega)).mono ?_
        rintro e w' ⟨rfl, rfl⟩
        go_wp2
        go_ret
        exact ⟨ret_eq (by rw [hv.out, HT.out]), hbel⟩
      · go_wp2_with fail
        refine (of_calls _ (obits (zs.take j)) w.heap.size _ (by rw [HL.out]; exact hown) (obits_bd _) (by rw [HL.out]; omega)).mono ?_
        rintro e w' ⟨rfl, rfl⟩
        go_wp2
        go_ret
        exact ⟨ret_eq (by rw [hv.out, HT.out]), hbel⟩
end Go.Proofs.Ytakcdkcikopoiaa.oc
