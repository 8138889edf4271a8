/- The walk of SlotsFew. -/
import Derived.Test.YtajfigihliafeaaSlOnce1
import Derived.Test.YtajfigihliafeaaCloneI
namespace Go.Proofs.Ytajfigihliafeaa
open Go.RowKit
set_option linter.unusedVariables false

/-- How many are free, of each cluster, as cells. -/
def frV (n : Nat) (f : Nat → Bool) : List Value := fnV (wn n) fun k => .int .i64 (fr n f k)
theorem frV_length (n : Nat) (f : Nat → Bool) : (frV n f).length = wn n := fnV_length _ _
theorem frV_at (n : Nat) (f : Nat → Bool) (k : Nat) (h : k < wn n) : (frV n f)[k]? = some (.int .i64 (fr n f k)) := fnV_at _ _ _ h
theorem frV_one (n : Nat) (f : Nat → Bool) : ∀ u ∈ frV n f, u.oneCell' = true := fun v hv => by obtain ⟨k, _, rfl⟩ := List.mem_map.1 hv; rfl
theorem clusters_calls (w : World) (b r a c g n cap : Nat) (sp : List Value) (f : Nat → Bool) (h : BoardAt w b r a c g n cap sp f) :
    Calls Try.prog 12 #[.pointer (some ⟨b, 0, none⟩)] w fun e w' => ∃ v, e = .returned v ∧ w'.ownsRow w.heap.size 3 1 v (wn n) (frV n f) ∧ Below w.heap.size w w' := by
  have c1 := h.2.2.1.cell 1
  simp only [List.getElem?_cons_zero, List.getElem?_cons_succ] at c1
  have hn := h.2.2.2.1.2.1
  have hW : wn n ≤ 1024 := by unfold wn; omega
  have HR : Hid (RdAt w (some ⟨g, 0, none⟩) (wn n) (frV n f)) := Lib.hid (.inr ⟨g, 0, rfl, h.2.2.2.2.lt, fun i u hu => by
    rw [Nat.zero_add, h.2.2.2.2.cell i, List.getElem?_append_left (by rw [fnV_length]; have := (List.getElem?_eq_some_iff.1 hu).1; rwa [frV_length] at this)]
    exact hu⟩)
  clear h
  go_enter Try.func12, Try.ntmps12
  go_wp2_with fail
  refine (clone_int _ _ (wn n) cap (frV n f) (by rw [frV_length, Nat.mul_one]) HR.out (frV_one _ _) (by omega)).mono ?_
  rintro e w1 ⟨v, rfl, hown, _, hb⟩
  have HO := Lib.hid hown
  have HB := Lib.hid hb
  clear hown hb
  go_wp2
  go_ret
  exact ⟨_, rfl, HO.out, HB.out⟩

def part (n : Nat) (f : Nat → Bool) (c : Nat) : Bool := decide (0 < fr n f c) && decide (fr n f c < 64)
theorem part_iff (n : Nat) (f : Nat → Bool) (c : Nat) : part n f c = true ↔ 0 < fr n f c ∧ fr n f c < 64 := by simp [part]
def Few (n : Nat) (f : Nat → Bool) (i : Nat) : Prop := cntF f n = min i n ∧ ∀ c d, c < wn n → d < wn n → part n f c = true → part n f d = true → c = d
theorem cntF_one {h : Nat → Bool} : ∀ m, (∀ a b, a < m → b < m → h a = true → h b = true → a = b) → cntF h m ≤ 1 := by
  intro m
  induction m with
  | zero => intro _; simp [cntF]
  | succ m ih =>
    intro hu
    have := ih (fun a b ha hb => hu a b (by omega) (by omega))
    simp only [cntF]
    cases hm : h m
    · simpa using this
    · have hz : cntF h m = 0 := by
        have : cntF h m = cntF h 0 := cntF_flat m (by omega) (fun i _ hi => by
          cases hhi : h i
          · rfl
          · have := hu i m (by omega) (by omega) hhi hm; omega)
        rw [this]; rfl
      rw [hz]; simp
theorem Few.start (n c : Nat) (hn : n = 64 * c) : Few n (fun _ => false) 0 := by
  refine ⟨by rw [cntF_none]; omega, fun x y hx hy hp _ => ?_⟩
  have := (part_iff _ _ _).1 hp
  rw [fr_new n x (by unfold wn at hx; omega)] at this
  unfold wn at hx
  omega
theorem Few.next {n : Nat} {f : Nat → Bool} {i s : Nat} (h : Few n f i) (hs : PickS n f s) : Few n (put f s true) (i + 1) := by
  obtain ⟨h1, h2⟩ := h
  obtain ⟨p1, p2, p3, p4⟩ := hs
  have hc := cntF_set f s n p2 p1
  have hle := cntF_le (put f s true) n
  refine ⟨by omega, ?_⟩
  have hs2 : s / 64 < wn n := by unfold wn; omega
  have hp := (fr_pos n f (s / 64)).2 ⟨s, by omega, by omega, p1, p2⟩
  have key : ∀ c, c < wn n → c ≠ s / 64 → part n (put f s true) c = true → part n (put f s true) (s / 64) = true → False := by
    intro c hc hne hpc hps
    have e1 := fr_set n f s p1 p2 c
    rw [if_neg hne] at e1
    have e2 := fr_set n f s p1 p2 (s / 64)
    rw [if_pos rfl] at e2
    have a1 := (part_iff _ _ _).1 hpc
    have a2 := (part_iff _ _ _).1 hps
    have b1 := (p4 c hc (by omega)).1
    exact hne (h2 c (s / 64) hc hs2 ((part_iff _ _ _).2 (by omega)) ((part_iff _ _ _).2 (by omega)))
  intro c d hc hd hpc hpd
  by_cases e1 : c = s / 64
  · by_cases e2 : d = s / 64
    · omega
    · subst e1; exact (key d hd e2 hpd hpc).elim
  · by_cases e2 : d = s / 64
    · subst e2; exact (key c hc e1 hpc hpd).elim
    · have f1 := fr_set n f s p1 p2 c
      rw [if_neg e1] at f1
      have f2 := fr_set n f s p1 p2 d
      rw [if_neg e2] at f2
      have a1 := (part_iff _ _ _).1 hpc
      have a2 := (part_iff _ _ _).1 hpd
      exact h2 c d hc hd ((part_iff _ _ _).2 (by omega)) ((part_iff _ _ _).2 (by omega))
theorem Few.full {n : Nat} {f : Nat → Bool} {i : Nat} (h : Few n f i) (hz : ∀ k, k < wn n → fr n f k = 0) : Few n f (i + 1) := by
  have := cntF_full f n (fun i hi => fr_none hz i hi)
  exact ⟨by have := h.1; omega, h.2⟩
theorem Few.parts {n : Nat} {f : Nat → Bool} {i : Nat} (h : Few n f i) : cntF (part n f) (wn n) ≤ 1 := cntF_one _ fun a b ha hb h1 h2 => h.2 a b ha hb h1 h2

set_option maxRecDepth 100000 in
set_option maxHeartbeats 8000000 in
theorem few_walk (n k0 : Int) (w : World) (wn0 : (Lit.int .i64 n).wf = true) (wk0 : (Lit.int .u8 k0).wf = true) :
    Calls Try.prog 4 #[.int .i64 n, .int .u8 k0] w fun e w' => e = .returned (.bool true) ∧ Below w.heap.size w w' := by
  have hk := wf_u8 wk0
  obtain ⟨k, rfl⟩ := Int.eq_ofNat_of_zero_le hk.1
  have hk2 : k ≤ 255 := by omega
  obtain ⟨b0, b1, b2, b3⟩ := rem_mod n 5 (by omega) (by omega)
  obtain ⟨d, hd⟩ : ∃ d : Nat, 1 + n.tmod 5 % 5 = d := ⟨(1 + n.tmod 5 % 5).toNat, by omega⟩
  obtain ⟨m, hm⟩ : ∃ m : Nat, 64 * (1 + n.tmod 5 % 5) = m := ⟨64 * d, by omega⟩
  have hm2 : 64 ≤ m ∧ m ≤ 320 := by omega
  have HMm := Lib.hid hm
  have HD := Lib.hid (show m = 64 * d by omega)
  clear wn0 wk0 hm hd hk
  go_enter Try.func4, Try.ntmps4
  go_wp2_with fail
  refine (awake_calls09 _).mono ?_
  rintro e w1 ⟨rfl, hb1⟩
  have HB1 := Lib.hid hb1
  clear hb1
  go_wp2_with fail
  rw [HMm.out]
  refine (newb_calls _ m none 0 0 [] (by omega) (by omega) (IntsAt.nil _) (by omega)).mono ?_
  rintro e w2 ⟨hb2, ⟨rfl, hx⟩ | ⟨b, r, a, c, g, cap, sp, f, rfl, hf, hbd, h1, h2, h3, h4, h5⟩⟩
  · cases hx
  · injection hf with hf
    subst hf
    have HB2 := Lib.hid (bel_next HB1.out hb2 (Nat.le_refl _))
    have HBd := Lib.hid hbd
    have hS : w.heap.size ≤ b ∧ w.heap.size ≤ r ∧ w.heap.size ≤ a ∧ w.heap.size ≤ c ∧ w.heap.size ≤ g := by have := HB1.out.size; omega
    have HS := Lib.hid hS
    clear hb2 hbd h1 h2 h3 h4 h5 hS
    go_wp2_with fail
    go_loopg [8] k (fun q i wr => ∃ (j : Nat) (f : Nat → Bool), q + j = k ∧ i = .int .i64 j ∧ BoardAt wr b r a c g m cap sp f ∧ Hid (Few m f j) ∧ Below w.heap.size w wr)
    case atStart => exact ⟨0, _, by omega, rfl, HBd.out, Lib.hid (Few.start m d HD.out), HB2.out⟩
    case round =>
      obtain ⟨j, f, hj, rfl, hbd, hF, hbel⟩ := hrel
      have HBj := Lib.hid hbd
      have HBel := Lib.hid hbel
      clear hbd hbel
      by_cases hlt : j < k
      · go_wp2_with fail
        refine (take_calls _ b r a c g m cap sp f HBj.out).mono ?_
        intro e w4 ht
        obtain ⟨x, y, h, he, hb4, hF4, hbel4⟩ : ∃ (x y : Int) (h : Nat → Bool), e = .returned (.tuple #[.int .i64 x, .int .i64 y]) ∧ BoardAt w4 b r a c g m cap sp h ∧ Few m h (j + 1) ∧ Below w.heap.size w w4 := by
          rcases ht with ⟨rfl, hno, rfl⟩ | ⟨x, rfl, hx, hb4, ho4⟩
          · exact ⟨_, _, f, rfl, HBj.out, hF.out.full hno, HBel.out⟩
          · exact ⟨_, _, _, rfl, hb4, hF.out.next hx, bel_only HBel.out ho4 (Nat.le_refl _) (fun i => BrdS_ge HS.out.2.1 HS.out.2.2.1 HS.out.2.2.2.1 HS.out.2.2.2.2)⟩
        subst he
        have HB4 := Lib.hid hb4
        have HF4 := Lib.hid hF4
        have HBel4 := Lib.hid hbel4
        clear ht hb4 hF4 hbel4
        go_wp2_with fail
        refine (clusters_calls _ b r a c g m cap sp h HB4.out).mono ?_
        rintro e w5 ⟨v, rfl, hown, hb5⟩
        obtain ⟨A5, c5, rfl⟩ := ownsRow_slice hown
        have HR5 := Lib.hid (RdAt.of_own hown)
        have HB5 := Lib.hid (BMid.below HB4.out hb5)
        have HBel5 := Lib.hid (bel_next HBel4.out hb5 (Nat.le_refl _))
        have hparts := HF4.out.parts
        clear hown hb5
        have hwm : wn m ≤ 5 := by unfold wn; omega
        go_wp2_with fail
        go_loopg [9, 11] (wn m) (fun q p i wr => ∃ t : Nat, q + t = wn m ∧ i = .int .i64 t ∧ p = .int .i64 (cntF (part m h) t : Nat) ∧ w5 = wr)
        case atStart => exact ⟨0, by omega, rfl, rfl, rfl⟩
        case round =>
          obtain ⟨t, ht, rfl, rfl, rfl⟩ := hrel
          have hcl := cntF_le (part m h) t
          by_cases hlt2 : t < wn m
          · obtain ⟨bb, oo, rfl, hbb, hcc⟩ := (HR5.out).resolve_left (by omega)
            have dt := hcc t _ (frV_at m h t hlt2)
            have hsu : cntF (part m h) (t + 1) = cntF (part m h) t + (if part m h t then 1 else 0) := rfl
            have hle := fr_le m h t
            by_cases h0 : fr m h t = 0
            · have hp : part m h t = false := by unfold part; rw [h0]; rfl
              rw [hp] at hsu
              rw [h0] at dt
              have HSu := Lib.hid hsu
              clear hsu hp h0 hcc hle
              go_wp2
              go_roundg (gk - 1)
              case measure => omega
              case rel => exact ⟨t + 1, by omega, by go_num, by rw [HSu.out]; simp, rfl⟩
            · by_cases h64 : fr m h t < 64
              · have hp : part m h t = true := (part_iff _ _ _).2 (by omega)
                rw [hp] at hsu
                have HSu := Lib.hid hsu
                have h0' : 0 < fr m h t := by omega
                generalize fr m h t = y at *
                clear hsu hp h0 hcc hle
                go_wp2
                go_roundg (gk - 1)
                case measure => omega
                case rel => exact ⟨t + 1, by omega, by go_num, by rw [HSu.out]; simp only [if_true]; go_num, rfl⟩
              · have hp : part m h t = false := by
                  cases e : part m h t
                  · rfl
                  · have := (part_iff _ _ _).1 e; omega
                rw [hp] at hsu
                have HSu := Lib.hid hsu
                have h0' : 0 < fr m h t := by omega
                generalize fr m h t = y at *
                clear hsu hp h0 hcc hle
                go_wp2
                go_roundg (gk - 1)
                case measure => omega
                case rel => exact ⟨t + 1, by omega, by go_num, by rw [HSu.out]; simp, rfl⟩
          · obtain rfl : t = wn m := by omega
            clear hcl
            go_wp2
            go_roundg (k - (j + 1))
            case measure => omega
            case rel => exact ⟨j + 1, h, by omega, by go_num, HB5.out, HF4, HBel5.out⟩
      · obtain rfl : j = k := by omega
        have hcnt := hF.out.1
        have HCnt := Lib.hid hcnt
        clear hcnt
        go_wp2_with fail
        refine (free_calls _ b r a c g m cap sp f HBj.out).mono ?_
        rintro e w5 ⟨rfl, q, rfl⟩
        rw [HCnt.out]
        by_cases hjm : j ≤ m
        · have e1 : ((m - min j m : Nat) : Int) = (m : Int) - j := by omega
          rw [e1]
          have e2 : ¬ (m : Int) - j < 0 := by omega
          have e3 : (0 : Int) ≤ (m : Int) - j := by omega
          go_wp2
          go_ret
          exact ⟨rfl, below_drewN HBel.out q⟩
        · have e1 : ((m - min j m : Nat) : Int) = 0 := by omega
          rw [e1]
          have e2 : (m : Int) - j < 0 := by omega
          go_wp2
          go_ret
          exact ⟨rfl, below_drewN HBel.out q⟩
end Go.Proofs.Ytajfigihliafeaa
