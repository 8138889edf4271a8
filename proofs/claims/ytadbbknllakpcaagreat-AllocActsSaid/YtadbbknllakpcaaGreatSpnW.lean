/- The document's Words (mothballref08), and With (mothballref15). -/
import Derived.Test.YtadbbknllakpcaaGreatSpnN
namespace Go.Proofs.YtadbbknllakpcaaGreat
open Go.RowKit
set_option linter.unusedVariables false

/-- The bits of a word from k on. -/
def hiW (f : Nat → Bool) (j k : Nat) : Nat := wd f j / 2 ^ k
theorem hiW_top (f : Nat → Bool) (j : Nat) : hiW f j 64 = 0 := Nat.div_eq_of_lt (wd_lt f j)
theorem hiW_zero (f : Nat → Bool) (j : Nat) : hiW f j 0 = wd f j := by unfold hiW; simp
theorem hiW_step (f : Nat → Bool) (j k : Nat) (hk : k < 64) : hiW f j k = hiW f j (k + 1) * 2 + (if f (64 * j + k) then 1 else 0) := by
  have hb := wd_bit f (64 * j + k)
  rw [show (64 * j + k) / 64 = j by omega, show (64 * j + k) % 64 = k by omega] at hb
  unfold hiW
  rw [Nat.pow_succ, ← Nat.div_div_eq_div_mul]
  generalize wd f j / 2 ^ k = x at *
  omega
theorem hiW_lt (f : Nat → Bool) (j k : Nat) : hiW f j (k + 1) * 2 + 1 < 18446744073709551616 := by
  have h := wd_lt f j
  unfold hiW
  rw [Nat.pow_succ, ← Nat.div_div_eq_div_mul]
  have : wd f j / 2 ^ k ≤ wd f j := Nat.div_le_self _ _
  generalize wd f j / 2 ^ k = x at *
  omega
def R8W (w : World) (q u n : Nat) (f : Nat → Bool) : Prop :=
  Blk w q [.slice (some ⟨u, 0, none⟩) n n] 126 ∧ Blk w u (fnV n fun i => .bool (f i)) 4 ∧ (∀ i, n ≤ i → f i = false) ∧ n ≤ 65536
/-- The document's row, its list wherever it lies. -/
def R8G (w : World) (q : Nat) (B : Option Addr) (n cap : Nat) (f : Nat → Bool) : Prop :=
  Blk w q [.slice B n cap] 126 ∧ RdAt w B n (fnV n fun i => .bool (f i)) ∧ (∀ i, n ≤ i → f i = false) ∧ n ≤ 65536
theorem R8G.below {w w' : World} {q n cap : Nat} {B : Option Addr} {f : Nat → Bool} (h : R8G w q B n cap f) (o : Below w.heap.size w w') : R8G w' q B n cap f := ⟨h.1.below o, h.2.1.below o, h.2.2⟩
set_option maxHeartbeats 4000000 in
set_option maxRecDepth 20000 in
theorem words8_calls (w : World) (q : Nat) (B : Option Addr) (n cap : Nat) (f : Nat → Bool) (h : R8G w q B n cap f) :
    Calls Tryz.prog 87 #[.pointer (some ⟨q, 0, none⟩)] w fun e w' => ∃ v, e = .returned v ∧ w'.ownsRow w.heap.size 64 1 v (wn n) (wdV (wn n) f) ∧ Below w.heap.size w w' := by
  obtain ⟨i0, hi, hz0, hz1, hz2⟩ := info_parts Tryz.info_clone_u64
  have HR := Lib.hid h
  have hn := h.2.2.2
  have hW : wn n ≤ 1024 := by unfold wn; omega
  clear h
  go_enter Tryz.func87, Tryz.ntmps87
  go_wp2_with fail
  go_loopg [3, 4] (wn n) (fun g v i wr => ∃ j : Nat, g + j = wn n ∧ i = .int .i64 ((64 * j : Nat) : Int) ∧ wr.ownsRow w.heap.size 64 1 v j (wdV j f) ∧ Below w.heap.size w wr)
  case atStart => exact ⟨0, by omega, by go_num, World.ownsRow_nil _ _ _ _, Below.refl _ _⟩
  case round =>
    obtain ⟨j, hj, rfl, hown, hb⟩ := hrel
    have HO := Lib.hid hown
    have HB := Lib.hid hb
    have hr := HR.out.below hb
    have HRr := Lib.hid hr
    have d0 := hr.1.cell 0
    simp only [List.getElem?_cons_zero] at d0
    have hbw := hb.size
    clear hown hb hr
    by_cases hlt : j < wn n
    · obtain ⟨p, hp⟩ : ∃ p, 64 * j = p := ⟨_, rfl⟩
      have HP := Lib.hid hp
      have hpn : p < n := by unfold wn at hlt; omega
      rw [hp]
      clear hp
      obtain ⟨wo, rfl⟩ : ∃ wo : World, wo = wr := ⟨_, rfl⟩
      obtain ⟨bb, oo, rfl, hbb, hcc⟩ := (HRr.out.2.1).resolve_left (by omega)
      have HCc := Lib.hid hcc
      clear hcc
      go_wp2_with fail
      go_loopg [5, 6] 64 (fun g x ki wr => ∃ (t y : Nat), g = t ∧ t ≤ 64 ∧ ki = .int .i64 ((t : Int) - 1) ∧ x = .int .u64 y ∧ Hid (y = hiW f j t) ∧ wo = wr)
      case atStart => exact ⟨64, 0, rfl, by omega, by go_num, rfl, Lib.hid (hiW_top f j).symm, rfl⟩
      case round =>
        obtain ⟨t, y, hgt, ht, rfl, rfl, hy, rfl⟩ := hrel
        have HG := Lib.hid hgt
        clear hgt
        by_cases h0 : 0 < t
        · obtain ⟨k, rfl⟩ : ∃ k, t = k + 1 := ⟨t - 1, by omega⟩
          have hki : ((k + 1 : Nat) : Int) - 1 = (k : Int) := by omega
          rw [hki]
          have hst := hiW_step f j k (by omega)
          have hlt2 := hiW_lt f j k
          rw [← hy.out] at hst hlt2
          have hpk : 64 * j + k = p + k := by have := HP.out; omega
          rw [hpk] at hst
          obtain ⟨s, hs⟩ : ∃ s, p + k = s := ⟨_, rfl⟩
          have hsi : (p : Int) + (k : Int) = (s : Int) := by omega
          rw [hs] at hst
          have HSt := Lib.hid hst
          have hy2 : y * 2 + 1 < 18446744073709551616 := hlt2
          clear hst hlt2 hpk hs hki hy
          by_cases hin : s < n
          · have dx := HCc.out s _ (fnV_at n _ s hin)
            cases hf : f s
            · have hN := HSt.out
              rw [hf] at hN dx
              have HN := Lib.hid hN
              clear hf hN
              go_wp2
              go_roundg k
              case measure => have := HG.out; omega
              case rel => exact ⟨k, y * 2, rfl, by omega, by go_num, by go_num, Lib.hid (by have := HN.out; simp at this; exact this.symm), rfl⟩
            · have hN := HSt.out
              rw [hf] at hN dx
              have HN := Lib.hid hN
              clear hf hN
              go_wp2
              go_roundg k
              case measure => have := HG.out; omega
              case rel => exact ⟨k, y * 2 + 1, rfl, by omega, by go_num, by go_num, Lib.hid (by have := HN.out; simp at this; exact this.symm), rfl⟩
          · have hN := HSt.out
            rw [HRr.out.2.2.1 s (by omega)] at hN
            have HN := Lib.hid hN
            have hin' : n ≤ s := by omega
            clear hN hin
            go_wp2
            go_roundg k
            case measure => have := HG.out; omega
            case rel => exact ⟨k, y * 2, rfl, by omega, by go_num, by go_num, Lib.hid (by have := HN.out; simp at this; exact this.symm), rfl⟩
        · obtain rfl : t = 0 := by omega
          have hyw := hy.out
          rw [hiW_zero] at hyw
          have HX := Lib.hid (show wdV j f ++ [.int .u64 y] = wdV (j + 1) f by rw [hyw]; unfold wdV fnV; rw [List.range_succ, List.map_append]; rfl)
          clear hy hyw
          go_wp2_with (at_builtin; refine wpList_append_one rfl (.tmp 44) (.tmp 46) 25 rfl w.heap.size 64 i0 _ 8 Tryz.underlying25 hi hz0 hz1 hz2 rfl u3 _ _ rfl HO.out rfl rfl (by omega) (by unfold maxLen; omega) (by omega) ?_; intro v1 w5 hown1 hgr1 hnew1)
          rw [HX.out] at hown1
          go_roundg (wn n - (j + 1))
          case measure => omega
          case rel => exact ⟨j + 1, by omega, by have := HP.out; go_num, hown1, HB.out.grown hgr1 hbw (fun k hk => (HO.out.lt k hk).1)⟩
    · obtain rfl : j = wn n := by omega
      have hnlt : ¬ ((64 * wn n : Nat) : Int) < (n : Int) := by unfold wn; omega
      go_wp2
      go_ret
      exact ⟨_, rfl, HO.out, HB.out⟩
end Go.Proofs.YtadbbknllakpcaaGreat
