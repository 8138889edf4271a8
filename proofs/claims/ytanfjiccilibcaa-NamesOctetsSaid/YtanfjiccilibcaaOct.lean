/- Octets and numbers (layer 1): the plain mathematics and the walks of Lay and Get, and of the document's where they are reached. -/
import Derived.Test.YtanfjiccilibcaaLib
import Derived.Test.YtanfjiccilibcaaBase
import Derived.WalkLawsBesides
import Derived.WalkSpells
import Derived.Lib.Hide
import Derived.OwnWalk
import Derived.Deep.RegionWith
import Derived.OpenShut
import Derived.Laws.BitsAllLaws
namespace Go.Proofs.Ytanfjiccilibcaa.oc
open Go.RowKit
set_option linter.unusedVariables false

def cnt (n l : Int) : Int := min (max n 0) l
theorem cnt_bd (n l : Int) (h : 0 ≤ l) : 0 ≤ cnt n l ∧ cnt n l ≤ l := by unfold cnt; omega
/-- A number's 64 bits as a natural number. -/
def U (n : Int) : Nat := (n % 18446744073709551616).toNat
theorem U_lt (n : Int) : U n < 18446744073709551616 := by unfold U; omega
theorem U_cast (n : Int) : ((U n : Nat) : Int) = n % 18446744073709551616 := by unfold U; omega
theorem U_wrap (n : Int) : IntKind.u64.wrap n = ((U n : Nat) : Int) := by rw [IntKind.wrap_u64, U_cast]
theorem wrap_U (n : Int) (hn : n ≤ 9223372036854775807) (hn' : -9223372036854775808 ≤ n) : wrap64 ((U n : Nat) : Int) = n := by unfold wrap64 U; omega
theorem U_of_nat (x : Nat) (h : x < 18446744073709551616) : U ((x : Nat) : Int) = x := by unfold U; omega
theorem U_wrap64 (n : Int) : U (wrap64 n) = U n := by unfold wrap64 U; omega
theorem pow_le64 (c : Nat) (h : c ≤ 64) : 2 ^ c ≤ 18446744073709551616 := by
  have := Nat.pow_le_pow_right (show 0 < 2 by omega) h
  simpa using this
theorem pow_pos2 (c : Nat) : 0 < 2 ^ c := Nat.pow_pos (by omega)
/-- The number of c bits, least first. -/
def hor : List Int → Int
  | [] => 0
  | b :: l => b + 2 * hor l
theorem hor_bd (l : List Int) (h : ∀ b ∈ l, 0 ≤ b ∧ b ≤ 1) : 0 ≤ hor l ∧ hor l < 2 ^ l.length := by
  induction l with
  | nil => simp [hor]
  | cons b l ih =>
    have hb := h b (by simp)
    have i := ih (fun x hx => h x (by simp [hx]))
    simp only [hor, List.length_cons, Int.pow_succ]
    omega
theorem hor_append (l m : List Int) : hor (l ++ m) = hor l + 2 ^ l.length * hor m := by
  induction l with
  | nil => simp [hor]
  | cons b l ih =>
    simp only [List.cons_append, hor, ih, List.length_cons, Int.pow_succ]
    rw [Int.mul_add, ← Int.add_assoc, Int.mul_comm (2 ^ l.length) 2, Int.mul_assoc]
/-- Bit i of a number. -/
def bitL (n i : Int) : Int := ((U n / 2 ^ i.toNat % 2 : Nat) : Int)
theorem bitL_bd (n i : Int) : 0 ≤ bitL n i ∧ bitL n i ≤ 1 := by unfold bitL; omega
def bitsOf (x : Nat) (c : Nat) : List Int := (List.range c).map fun i => ((x / 2 ^ i % 2 : Nat) : Int)
theorem bitsOf_length (x c : Nat) : (bitsOf x c).length = c := by simp [bitsOf]
theorem bitsOf_succ (x c : Nat) : bitsOf x (c + 1) = bitsOf x c ++ [((x / 2 ^ c % 2 : Nat) : Int)] := by simp [bitsOf, List.range_succ]
theorem bitsOf_cons (x c : Nat) : bitsOf x (c + 1) = ((x % 2 : Nat) : Int) :: bitsOf (x / 2) c := by
  unfold bitsOf
  rw [List.range_succ_eq_map]
  simp only [List.map_cons, List.map_map, Nat.pow_zero, Nat.div_one]
  congr 1
  apply List.map_congr_left
  intro i _
  simp only [Function.comp, Nat.succ_eq_add_one]
  rw [Nat.pow_succ', Nat.div_div_eq_div_mul]
theorem bitsOf_bd (x c : Nat) : ∀ b ∈ bitsOf x c, 0 ≤ b ∧ b ≤ 1 := by
  intro b hb
  simp only [bitsOf, List.mem_map] at hb
  obtain ⟨i, _, rfl⟩ := hb
  omega
theorem hor_bitsOf (c : Nat) : ∀ x : Nat, hor (bitsOf x c) = ((x % 2 ^ c : Nat) : Int) := by
  induction c with
  | zero => intro x; simp [bitsOf, hor, Nat.mod_one]
  | succ c ih =>
    intro x
    rw [bitsOf_cons, hor, ih]
    rw [Nat.pow_succ', Nat.mod_mul]
    omega
theorem pow_cast (c : Nat) : ((2 ^ c : Nat) : Int) = 2 ^ c := by simp
theorem count_calls (n l : Int) (w : World) :
    Calls Try.prog 51 #[.int .i64 n, .int .i64 l] w fun e w' => e = .returned (.int .i64 (cnt n l)) ∧ w = w' := by
  go_enter Try.func51, Try.ntmps51
  go_wp2
  all_goals go_ret
  all_goals refine ⟨ret_eq ?_, rfl⟩
  all_goals (unfold cnt; omega)
def layL (n : Int) (m : Nat) : List Int := (List.range m).map fun i => ((U n / 2 ^ (8 * i) % 256 : Nat) : Int)
theorem layL_length (n : Int) (m : Nat) : (layL n m).length = m := by simp [layL]
theorem layL_succ (n : Int) (m : Nat) : layL n (m + 1) = layL n m ++ [((U n / 2 ^ (8 * m) % 256 : Nat) : Int)] := by simp [layL, List.range_succ]

theorem u_div (n : Int) (k : Nat) : IntKind.u64.wrap n / 2 ^ k % 256 = ((U n / 2 ^ k % 256 : Nat) : Int) := by rw [U_wrap]; simp
theorem Try.info_u8 : (Try.prog.info? 5).map (fun i => (i.zero, i.size, i.bytes)) = some (some (.int .u8 0), 1, 1) := by kernel_rfl
theorem Try.info_int : (Try.prog.info? 3).map (fun i => (i.zero, i.size, i.bytes)) = some (some (.int .i64 0), 1, 8) := by kernel_rfl

set_option maxHeartbeats 400000 in
theorem lay_calls (n size : Int) (w : World) (hn : n ≤ 9223372036854775807) (hn' : -9223372036854775808 ≤ n) :
    Calls Try.prog 44 #[.int .i64 n, .int .i64 size] w fun e w' =>
      ∃ v, e = .returned v ∧ w'.ownsRow w.heap.size 5 1 v (cnt size 8).toNat ((layL n (cnt size 8).toNat).map (.int .u8)) ∧ Below w.heap.size w w' := by
  have hb := cnt_bd size 8 (by omega)
  obtain ⟨m, hm⟩ : ∃ m : Nat, cnt size 8 = m := ⟨(cnt size 8).toNat, by omega⟩
  obtain ⟨i0, hi, hz0, hz1, hz2⟩ := info_parts Try.info_u8
  have hm8 : m ≤ 8 := by omega
  have HM := Lib.hid hm
  clear hm
  go_enter Try.func44, Try.ntmps44
  go_wp2_with (go_at_call 51; refine (count_calls _ _ _).mono ?_; rintro e w' ⟨rfl, rfl⟩)
  rw [HM.out]
  clear hb
  go_loopw [5, 9] (fun v i wr => ∃ k : Nat, k ≤ m ∧ i = .int .i64 k ∧ wr.ownsRow w.heap.size 5 1 v k ((layL n k).map (.int .u8)) ∧ Below w.heap.size w wr) (fun _ i _ => m - (intOf i).toNat)
  case atStart => exact ⟨0, Nat.zero_le _, rfl, World.ownsRow_nil _ _ _ _, Below.refl _ _⟩
  case round =>
    obtain ⟨k, hk, rfl, hown, hbel⟩ := hrel
    by_cases hlt : k < m
    · have hbw := hbel.size
      go_wp2_with (at_builtin; refine wpList_append1 rfl (.tmp 12) (.tmp 19) 27 rfl w.heap.size 5 i0 (.int .u8 0) 1 Try.underlying27 hi hz0 hz1 hz2 rfl u5 _ _ rfl hown rfl rfl (by omega) (by unfold maxLen; omega) (by omega) ?_; intro v' w1 hown1 hgr1 hne1)
      refine ⟨⟨k + 1, by omega, by go_num, ?_, hbel.grown hgr1 hbw (fun j hj => (hown.lt j hj).1)⟩, by simp [intOf]; omega⟩
      rw [layL_succ, List.map_append, ← u_div]
      exact hown1
    · go_wp2
      go_ret
      have hkm : k = m := by omega
      subst hkm
      refine ⟨_, rfl, ?_, hbel⟩
      rw [HM.out, Int.toNat_natCast]
      exact hown
/-- The number of octets, the least first. -/
def oct : List Int → Int
  | [] => 0
  | b :: l => b + 256 * oct l
theorem oct_append (l m : List Int) : oct (l ++ m) = oct l + 256 ^ l.length * oct m := by
  induction l with
  | nil => simp [oct]
  | cons b l ih =>
    simp only [List.cons_append, oct, ih, List.length_cons, Int.pow_succ]
    rw [Int.mul_add, ← Int.add_assoc, Int.mul_comm (256 ^ l.length) 256, Int.mul_assoc]
theorem oct_bd (l : List Int) (h : ∀ b ∈ l, 0 ≤ b ∧ b ≤ 255) : 0 ≤ oct l ∧ oct l < 256 ^ l.length := by
  induction l with
  | nil => simp [oct]
  | cons b l ih =>
    have hb := h b (by simp)
    have i := ih (fun x hx => h x (by simp [hx]))
    simp only [oct, List.length_cons, Int.pow_succ]
    omega
theorem pow256 (k : Nat) : (256 : Int) ^ k = 2 ^ (8 * k) := by
  rw [Int.pow_mul]; rfl
theorem pow256n (k : Nat) : 256 ^ k = 2 ^ (8 * k) := by
  rw [Nat.pow_mul]
theorem oct_lay (n : Int) (m : Nat) : oct (layL n m) = ((U n % 2 ^ (8 * m) : Nat) : Int) := by
  induction m with
  | zero => simp [layL, oct, Nat.mod_one]
  | succ m ih =>
    rw [layL_succ, oct_append, ih, layL_length]
    simp only [oct]
    rw [pow256, show 8 * (m + 1) = 8 * m + 8 by omega, Nat.pow_add, Nat.mod_mul]
    have := pow_cast (8 * m)
    rw [← this]
    simp
theorem oct_take_succ (l : List Int) (k : Nat) (hk : k < l.length) : oct (l.take (k + 1)) = oct (l.take k) + 256 ^ k * (l[k]?.getD 0) := by
  have : l.take (k + 1) = l.take k ++ [l[k]?.getD 0] := by
    rw [List.take_succ_eq_append_getElem hk]; simp [hk]
  rw [this, oct_append]
  simp [oct, Nat.min_eq_left (Nat.le_of_lt hk)]

/-- The least 'k' of eight bits, from the greatest down: what the inner loop of the document's Lay has made. -/
theorem horn (X m p : Nat) : X / 2 ^ (m + 1) % 2 ^ p * 2 + X / 2 ^ m % 2 = X / 2 ^ m % 2 ^ (p + 1) := by
  rw [Nat.pow_succ, ← Nat.div_div_eq_div_mul, Nat.pow_succ', Nat.mod_mul]
  omega

/-- A slice of octets as it is read: empty, or a row of cells. -/
def Octs (w : World) (a : Option Addr) (len cap : Nat) (zs : List Int) : Prop :=
  zs.length = len ∧ (∀ b ∈ zs, 0 ≤ b ∧ b ≤ 255) ∧ len ≤ cap ∧ cap ≤ maxLen ∧ (len = 0 ∨ ∃ b o, a = some ⟨b, o, none⟩ ∧ ∀ i, i < len → w.cell? ⟨b, o + i, none⟩ = some (.int .u8 (zs[i]?.getD 0)))
theorem Octs_of_row {w : World} {a : Option Addr} {len cap : Nat} {zs : List Int} (h : IsRow .u8 w a len cap zs) : Octs w a len cap (zs.take len) := by
  rcases h with ⟨rfl, rfl, rfl, rfl⟩ | ⟨x, rfl, h1, h2, h3, h4, h5⟩
  · exact ⟨rfl, by simp, Nat.le_refl _, by unfold maxLen; omega, .inl rfl⟩
  · refine ⟨by simp; omega, fun b hb => wf_u8 (h5 b (List.mem_of_mem_take hb)), h1, h2, ?_⟩
    by_cases hc : 0 < len
    · obtain ⟨b, o, rfl, hcell⟩ := ints_at h4 (by omega)
      refine .inr ⟨b, o, rfl, fun i hi => ?_⟩
      rw [hcell i (by omega)]
      simp [List.getD, hi]
    · exact .inl (by omega)
theorem Octs_of_own {w : World} {base n : Nat} {e : TypeId} {v : Value} {zs : List Int} (h : w.ownsRow base e 1 v n (zs.map (.int .u8))) (hb : ∀ b ∈ zs, 0 ≤ b ∧ b ≤ 255) : ∃ a cap, v = .slice a n cap ∧ Octs w a n cap zs := by
  have hl : zs.length = n := by have := ownsRow_len h; simpa using this
  rcases ownsRow_form h with ⟨rfl, rfl⟩ | ⟨g, cap, rfl, _, _, h1, h2⟩
  · exact ⟨none, 0, rfl, hl, hb, Nat.le_refl _, by unfold maxLen; omega, .inl rfl⟩
  · refine ⟨_, cap, rfl, hl, hb, h1, h2, .inr ⟨g, 0, rfl, fun i hi => ?_⟩⟩
    rw [Nat.zero_add, ownsRow_cell h i hi]
    simp [show i < zs.length by omega]
theorem layL_bd (n : Int) (m : Nat) : ∀ b ∈ layL n m, 0 ≤ b ∧ b ≤ 255 := by
  intro b hb
  simp only [layL, List.mem_map] at hb
  obtain ⟨i, _, rfl⟩ := hb
  omega
theorem Octs_below {w w' : World} {a : Option Addr} {len cap : Nat} {zs : List Int} (h : Octs w a len cap zs) {B : Nat} (hb : Below B w w') (ha : ∀ (x : Addr), a = some x → 0 < len → x.block < B) : Octs w' a len cap zs := by
  obtain ⟨h1, h2, h3, h4, h5⟩ := h
  refine ⟨h1, h2, h3, h4, ?_⟩
  rcases h5 with h5 | ⟨b, o, rfl, hc⟩
  · exact .inl h5
  · by_cases h0 : 0 < len
    · refine .inr ⟨b, o, rfl, fun i hi => ?_⟩
      rw [hb.cell (p := ⟨b, o + i, none⟩) (ha ⟨b, o, none⟩ rfl h0)]
      exact hc i hi
    · exact .inl (by omega)
theorem Octs_block {w : World} {a : Option Addr} {len cap : Nat} {zs : List Int} (h : Octs w a len cap zs) : ∀ x, a = some x → 0 < len → x.block < w.heap.size := by
  obtain ⟨h1, h2, h3, h4, h5⟩ := h
  intro x hx h0
  rcases h5 with h5 | ⟨b, o, rfl, hc⟩
  · omega
  · cases hx
    exact World.block_lt_of_cell? w _ (hc 0 h0)

theorem byte_at (zs : List Int) (h : ∀ b ∈ zs, 0 ≤ b ∧ b ≤ 255) (k : Nat) : 0 ≤ zs[k]?.getD 0 ∧ zs[k]?.getD 0 ≤ 255 := by
  by_cases hk : k < zs.length
  · have : zs[k]?.getD 0 = zs[k] := by simp [hk]
    rw [this]; exact h _ (List.getElem_mem hk)
  · rw [List.getElem?_eq_none (by omega)]; simp
theorem or_oct_lt (x y k : Nat) (hk : k < 8) (hx : x < 256 ^ k) (hy : y ≤ 255) : x + 256 ^ k * y < 18446744073709551616 := by
  have h1 : 256 ^ k * y ≤ 256 ^ k * 255 := Nat.mul_le_mul_left _ hy
  have h2 : 256 ^ (k + 1) ≤ 256 ^ 8 := Nat.pow_le_pow_right (by omega) (by omega)
  rw [Nat.pow_succ] at h2
  have h3 : 256 ^ 8 = 18446744073709551616 := by decide
  omega
theorem or_oct (x y k : Nat) (hk : k < 8) (hx : x < 256 ^ k) (hy : y ≤ 255) : bits .or .u64 (x : Int) (IntKind.u64.wrap ((y : Int) * 2 ^ (8 * k))) = ((x + 256 ^ k * y : Nat) : Int) := by
  have hl := or_oct_lt x y k hk hx hy
  have e1 : IntKind.u64.wrap ((y : Int) * 2 ^ (8 * k)) = ((y * 256 ^ k : Nat) : Int) := by
    have : (y : Int) * 2 ^ (8 * k) = ((y * 256 ^ k : Nat) : Int) := by rw [pow256n]; simp
    rw [this, IntWalk.u64_in _ (by rw [Nat.mul_comm]; omega)]
  rw [e1, u64_or_nat _ _ (by omega) (by rw [Nat.mul_comm]; omega), Nat.or_comm, nat_join (8 * k) _ _ (by rw [pow256n]; exact Nat.mul_mod_left _ _) (by rw [← pow256n]; exact hx)]
  rw [Nat.mul_comm, Nat.add_comm]

set_option maxHeartbeats 400000 in
theorem get_calls (a : Option Addr) (len cap : Nat) (zs : List Int) (w : World) (h : Octs w a len cap zs) :
    Calls Try.prog 46 #[.slice a len cap] w fun e w' => e = .returned (.int .i64 (wrap64 (oct (zs.take 8)))) ∧ w = w' := by
  obtain ⟨h1, h2, h3, h4, h5⟩ := h
  unfold maxLen at h4
  rcases h5 with rfl | ⟨b, o, rfl, hc⟩
  · have hz : zs = [] := List.eq_nil_of_length_eq_zero h1
    subst hz
    have e0 : cnt 0 8 = 0 := by decide
    clear h1 h2
    go_enter Try.func46, Try.ntmps46
    go_wp2_with (go_at_call 51; refine (count_calls _ _ _).mono ?_; rintro e w' ⟨rfl, rfl⟩)
    refine wp_loop_rounds 1 ?_
    rw [rounds_succ]
    go_wp2
    all_goals go_ret
    exact ⟨ret_eq (by simp [oct, wrap64]), rfl⟩
  · obtain ⟨m, hm⟩ : ∃ m : Nat, cnt len 8 = m := ⟨(cnt len 8).toNat, by have := cnt_bd len 8 (by omega); omega⟩
    have hml : m ≤ len ∧ m ≤ 8 ∧ (m = len ∨ m = 8) := by unfold cnt at hm; omega
    obtain ⟨hml, hm8, hmm⟩ := hml
    have HM := Lib.hid hm
    have HC := Lib.hid hc
    clear hm hc
    have HB := Lib.hid h2
    have HZ := Lib.hid h1
    clear h2 h1 hmm
    go_enter Try.func46, Try.ntmps46
    go_wp2_with fail
    refine (count_calls _ _ _).mono ?_
    rintro e w' ⟨rfl, rfl⟩
    rw [HM.out]
    go_wp2
    go_loop [3, 12] (fun u c => ∃ k x : Nat, k ≤ m ∧ x < 18446744073709551616 ∧ c = .int .i64 k ∧ u = .int .u64 x ∧ Hid ((x : Int) = oct (zs.take k))) (fun _ c => m - (intOf c).toNat)
    case atStart => exact ⟨0, 0, Nat.zero_le _, by omega, rfl, rfl, Lib.hid (by simp [oct])⟩
    case round =>
      obtain ⟨k, x, hk, hx, rfl, rfl, hX⟩ := hrel
      by_cases hlt : k < m
      · have hcell := HC.out k (by omega)
        have hyb := byte_at zs HB.out k
        obtain ⟨y, hy⟩ : ∃ y : Nat, zs[k]?.getD 0 = y := ⟨(zs[k]?.getD 0).toNat, by omega⟩
        rw [hy] at hcell hyb
        have hxk : x < 256 ^ k := by
          have h1 := oct_bd (zs.take k) (fun b hb => HB.out b (List.mem_of_mem_take hb))
          rw [← hX.out, List.length_take, Nat.min_eq_left (by have := HZ.out; omega)] at h1
          have e2 : ((256 ^ k : Nat) : Int) = 256 ^ k := by simp
          omega
        have hor := Lib.hid (or_oct x y k (by omega) hxk (by omega))
        have hlt64 : x + 256 ^ k * y < 18446744073709551616 := or_oct_lt x y k (by omega) hxk (by omega)
        have hs := Lib.hid (oct_take_succ zs k (by have := HZ.out; omega))
        rw [hy] at hs
        clear hy hxk
        have h64 := Lib.hid hlt64
        clear hlt64
        go_wp2
        rw [hor.out]
        refine ⟨⟨k + 1, x + 256 ^ k * y, by omega, h64.out, by go_num, rfl, Lib.hid ?_⟩, by simp [intOf]; omega⟩
        rw [hs.out, ← hX.out]
        simp
      · have hkm : k = m := by omega
        subst hkm
        go_wp2
        all_goals go_ret
        have h2 := hX.out
        refine ⟨ret_eq ?_, rfl⟩
        have h3 : zs.take k = zs.take 8 := by
          have h1 := HZ.out
          have h4 := HM.out
          by_cases h8 : k = 8
          · rw [h8]
          · have : k = len := by unfold cnt at h4; omega
            rw [List.take_of_length_le (by omega), List.take_of_length_le (by omega)]
        rw [h2, h3]
end Go.Proofs.Ytanfjiccilibcaa.oc
