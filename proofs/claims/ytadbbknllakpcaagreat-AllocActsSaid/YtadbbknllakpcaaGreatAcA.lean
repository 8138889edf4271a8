/- AllocActs: a list of spans, each beside where its words lie; the document's heap. -/
import Derived.Test.YtadbbknllakpcaaGreatHeapF
import Derived.Test.YtadbbknllakpcaaGreatHpCt
import Derived.Test.YtadbbknllakpcaaGreatSqA
import Derived.Test.YtadbbknllakpcaaGreatRnZ
import Derived.BigQuiet
namespace Go.Proofs.YtadbbknllakpcaaGreat
open Go.RowKit
set_option linter.unusedVariables false

/-- A span and where its words lie. -/
abbrev Zp := Sp × Option Addr × Nat
def cz : List Zp → List Value
  | [] => []
  | z :: r => .int .i64 (z.1.pg : Int) :: .int .i64 (z.1.ps : Int) :: .int .i64 z.1.cl :: .slice z.2.1 z.1.len z.2.2 :: cz r
theorem cz_len : ∀ Z : List Zp, (cz Z).length = Z.length * 4
  | [] => rfl
  | z :: r => by simp only [cz, List.length_cons, cz_len r]; omega
theorem cz_append : ∀ Z Y : List Zp, cz (Z ++ Y) = cz Z ++ cz Y
  | [], _ => rfl
  | z :: r, Y => by simp only [List.cons_append, cz, cz_append r Y]
theorem cz_drop : ∀ (Z : List Zp) (i : Nat), (cz Z).drop (i * 4) = cz (Z.drop i)
  | Z, 0 => by simp
  | [], i + 1 => by simp [cz]
  | z :: r, i + 1 => by
    rw [show (i + 1) * 4 = i * 4 + 1 + 1 + 1 + 1 by omega]
    simp only [cz, List.drop_succ_cons, cz_drop r i]
theorem cz_take : ∀ (Z : List Zp) (i : Nat), (cz Z).take (i * 4) = cz (Z.take i)
  | Z, 0 => by simp [cz]
  | [], i + 1 => by simp [cz]
  | z :: r, i + 1 => by
    rw [show (i + 1) * 4 = i * 4 + 1 + 1 + 1 + 1 by omega]
    simp only [cz, List.take_succ_cons, cz_take r i]
theorem cz_at : ∀ (Z : List Zp) (i : Nat) (z : Zp), Z[i]? = some z → (cz Z)[i * 4]? = some (.int .i64 (z.1.pg : Int)) ∧ (cz Z)[i * 4 + 1]? = some (.int .i64 (z.1.ps : Int)) ∧ (cz Z)[i * 4 + 2]? = some (.int .i64 z.1.cl) ∧ (cz Z)[i * 4 + 3]? = some (.slice z.2.1 z.1.len z.2.2)
  | [], _, _, h => by simp at h
  | t :: r, 0, z, h => by simp at h; subst h; simp [cz]
  | t :: r, i + 1, z, h => by
    have := cz_at r i z (by simpa using h)
    simp only [cz, show (i + 1) * 4 = i * 4 + 1 + 1 + 1 + 1 by omega, List.getElem?_cons_succ]
    exact this
theorem cz_one : ∀ Z : List Zp, ∀ v ∈ cz Z, v.oneCell' = true
  | [], _, h => by cases h
  | z :: r, v, h => by
    simp only [cz, List.mem_cons] at h
    rcases h with rfl | rfl | rfl | rfl | h
    · rfl
    · rfl
    · rfl
    · rfl
    · exact cz_one r v h
def spsZ (Z : List Zp) : List Sp := Z.map (·.1)
theorem spsZ_len (Z : List Zp) : (spsZ Z).length = Z.length := by unfold spsZ; rw [List.length_map]
theorem spsZ_at {Z : List Zp} {i : Nat} {z : Zp} (h : Z[i]? = some z) : (spsZ Z)[i]? = some z.1 := by unfold spsZ; rw [List.getElem?_map, h]; rfl
theorem cells_cz {W : Nat → Option Addr × Nat} : ∀ (Z : List Zp) (k : Nat), (∀ i z, Z[i]? = some z → W (k + i) = z.2) → cellsOf W k (spsZ Z) = cz Z
  | [], _, _ => rfl
  | z :: r, k, h => by
    have h0 := h 0 z rfl
    rw [Nat.add_zero] at h0
    have ih := cells_cz (W := W) r (k + 1) (fun i y hi => by rw [show k + 1 + i = k + (i + 1) by omega]; exact h (i + 1) y (by simpa using hi))
    simp only [spsZ, List.map_cons, cellsOf, cz, h0]
    rw [← ih]
    rfl
/-- The list, and where the words lie. -/
def zipZ (W : Nat → Option Addr × Nat) : Nat → List Sp → List Zp
  | _, [] => []
  | k, s :: r => (s, W k) :: zipZ W (k + 1) r
theorem zip_sps (W : Nat → Option Addr × Nat) : ∀ (S : List Sp) (k : Nat), spsZ (zipZ W k S) = S
  | [], _ => rfl
  | s :: r, k => by
    have := zip_sps W r (k + 1)
    simp only [spsZ, zipZ, List.map_cons] at this ⊢
    rw [this]
theorem zip_cz (W : Nat → Option Addr × Nat) : ∀ (S : List Sp) (k : Nat), cz (zipZ W k S) = cellsOf W k S
  | [], _ => rfl
  | s :: r, k => by simp only [zipZ, cz, cellsOf, zip_cz W r (k + 1)]
theorem zip_at (W : Nat → Option Addr × Nat) : ∀ (S : List Sp) (k i : Nat) (s : Sp), S[i]? = some s → (zipZ W k S)[i]? = some (s, W (k + i))
  | [], _, _, _, h => by simp at h
  | t :: r, k, 0, s, h => by simp at h; subst h; simp [zipZ]
  | t :: r, k, i + 1, s, h => by
    have := zip_at W r (k + 1) i s (by simpa using h)
    rw [show k + 1 + i = k + (i + 1) by omega] at this
    simpa [zipZ] using this
/-- Where a slice lies: it is there, and in none of these blocks. -/
def Far (w : World) (K : Nat → Prop) (A : Option Addr) : Prop := ∀ b o, A = some ⟨b, o, none⟩ → b < w.heap.size ∧ ¬ K b
theorem Far.grow {w w' : World} {K : Nat → Prop} {A : Option Addr} (h : Far w K A) (hs : w.heap.size ≤ w'.heap.size) : Far w' K A := fun b o e => ⟨Nat.lt_of_lt_of_le (h b o e).1 hs, (h b o e).2⟩
theorem Far.wide {w : World} {K K' : Nat → Prop} {A : Option Addr} (h : Far w K A) (hk : ∀ k, k < w.heap.size → K' k → K k) : Far w K' A := fun b o e => ⟨(h b o e).1, fun hb => (h b o e).2 (hk b (h b o e).1 hb)⟩
theorem Far.not {w : World} {K : Nat → Prop} {A : Option Addr} (h : Far w K A) : ∀ x y, A = some ⟨x, y, none⟩ → ¬ K x := fun x y e => (h x y e).2
/-- The spans of a list, and none of it in these blocks. -/
structure ZAt (w : World) (A : Option Addr) (Z : List Zp) (K : Nat → Prop) : Prop where
  rd : RdAt w A Z.length (cz Z)
  far : Far w K A
  wrd : ∀ z ∈ Z, WordsAt w z.2.1 z.1.len z.1.f ∧ Far w K z.2.1
theorem RdAt.only {w w' : World} {A : Option Addr} {len : Nat} {vs : List Value} {S : Nat → Prop} (h : RdAt w A len vs) (o : Only S w w') (hS : ∀ x y, A = some ⟨x, y, none⟩ → ¬ S x) : RdAt w' A len vs := by
  rcases h with h | ⟨b, p, rfl, hl, hc⟩
  · exact .inl h
  · exact .inr ⟨b, p, rfl, Nat.lt_of_lt_of_le hl o.size, fun i u hu => (o.cell (p := ⟨b, p + i, none⟩) hl (hS b p rfl)).trans (hc i u hu)⟩
theorem ZAt.only {w w' : World} {A : Option Addr} {Z : List Zp} {K S : Nat → Prop} (h : ZAt w A Z K) (o : Only S w w') (hS : ∀ k, S k → K k) : ZAt w' A Z K :=
  ⟨h.rd.only o (fun x y e hs => h.far.not x y e (hS x hs)), h.far.grow o.size, fun z hz => ⟨(h.wrd z hz).1.only o (fun x y e hs => (h.wrd z hz).2.not x y e (hS x hs)), (h.wrd z hz).2.grow o.size⟩⟩
theorem ZAt.below {w w' : World} {A : Option Addr} {Z : List Zp} {K : Nat → Prop} (h : ZAt w A Z K) (b : Below w.heap.size w w') : ZAt w' A Z K :=
  h.only (S := fun _ => False) (Only.of_below b) (fun _ h => h.elim)
theorem ZAt.wide {w : World} {A : Option Addr} {Z : List Zp} {K K' : Nat → Prop} (h : ZAt w A Z K) (hk : ∀ k, k < w.heap.size → K' k → K k) : ZAt w A Z K' :=
  ⟨h.rd, h.far.wide hk, fun z hz => ⟨(h.wrd z hz).1, (h.wrd z hz).2.wide hk⟩⟩
theorem ZAt.spans {w : World} {A : Option Addr} {Z : List Zp} {K : Nat → Prop} (h : ZAt w A Z K) : SpansAt w A (spsZ Z) := by
  refine ⟨fun i => (Z[i]?.map (·.2)).getD (none, 0), ?_, fun i s hs => ?_⟩
  · rw [spsZ_len, cells_cz Z 0 (fun i z hi => by simp [hi])]
    exact h.rd
  · unfold spsZ at hs
    rw [List.getElem?_map] at hs
    cases hz : Z[i]? with
    | none => rw [hz] at hs; cases hs
    | some z =>
      rw [hz] at hs
      cases hs
      show WordsAt w ((Z[i]?.map (·.2)).getD (none, 0)).1 z.1.len z.1.f
      rw [show (Z[i]?.map (·.2)).getD (none, 0) = z.2 by rw [hz]; rfl]
      exact (h.wrd z (List.mem_of_getElem? hz)).1
/-- A span of the list, in its four cells. -/
theorem ZAt.four {w : World} {A : Option Addr} {Z : List Zp} {K : Nat → Prop} (h : ZAt w A Z K) {j : Nat} {z : Zp} (hj : Z[j]? = some z) : ∃ b o, A = some ⟨b, o, none⟩ ∧ b < w.heap.size ∧ Four w b (o + j * 4) z.1.pg z.1.ps z.1.cl z.2.1 z.1.len z.2.2 := by
  obtain ⟨h0, h1, h2, h3⟩ := cz_at Z j z hj
  have hlt := (List.getElem?_eq_some_iff.1 hj).1
  rcases h.rd with h | ⟨b, o, rfl, hl, hc⟩
  · omega
  · exact ⟨b, o, rfl, hl, hc _ _ h0, hc _ _ h1, hc _ _ h2, hc _ _ h3⟩
/-- The document's heap: a block that holds its list. -/
structure RHp (w : World) (R : Nat) (A : Option Addr) (cap : Nat) (Z : List Zp) (K : Nat → Prop) : Prop where
  blk : Blk w R [.slice A Z.length cap] 36
  at' : ZAt w A Z K
  inv : Inv (spsZ Z)
  cap : Z.length ≤ cap
  own : K R
theorem RHp.below {w w' : World} {R cap : Nat} {A : Option Addr} {Z : List Zp} {K : Nat → Prop} (h : RHp w R A cap Z K) (b : Below w.heap.size w w') : RHp w' R A cap Z K :=
  ⟨h.blk.below b, h.at'.below b, h.inv, h.cap, h.own⟩
theorem RHp.only {w w' : World} {R cap : Nat} {A : Option Addr} {Z : List Zp} {K S : Nat → Prop} (h : RHp w R A cap Z K) (o : Only S w w') (hS : ∀ k, S k → K k) (hR : ¬ S R) : RHp w' R A cap Z K :=
  ⟨h.blk.only o hR, h.at'.only o hS, h.inv, h.cap, h.own⟩
theorem RHp.wide {w : World} {R cap : Nat} {A : Option Addr} {Z : List Zp} {K K' : Nat → Prop} (h : RHp w R A cap Z K) (hk : ∀ k, k < w.heap.size → K' k → K k) (hR : K' R) : RHp w R A cap Z K' :=
  ⟨h.blk, h.at'.wide hk, h.inv, h.cap, hR⟩
/-- What a step of the document's heap leaves. -/
def RStep (w w' : World) (R : Nat) (S : List Sp) (K : Nat → Prop) : Prop :=
  ∃ A cap Z, spsZ Z = S ∧ RHp w' R A cap Z K ∧ Only (· = R) w w'
theorem RHp.len {w : World} {R cap : Nat} {A : Option Addr} {Z : List Zp} {K : Nat → Prop} (h : RHp w R A cap Z K) : Z.length ≤ 4096 := by
  have := h.inv.len
  rw [spsZ_len] at this
  exact this
theorem RHp.cell {w : World} {R cap : Nat} {A : Option Addr} {Z : List Zp} {K : Nat → Prop} (h : RHp w R A cap Z K) : w.cell? ⟨R, 0, none⟩ = some (.slice A Z.length cap) := h.blk.cell 0
theorem RHp.mem {w : World} {R cap : Nat} {A : Option Addr} {Z : List Zp} {K : Nat → Prop} (h : RHp w R A cap Z K) {j : Nat} {z : Zp} (hj : Z[j]? = some z) : z.1.ok ∧ 0 < z.1.cnt ∧ WordsAt w z.2.1 z.1.len z.1.f := by
  have h1 := h.inv.1 z.1 (List.mem_of_getElem? (spsZ_at hj))
  exact ⟨h1.1, h1.2, (h.at'.wrd z (List.mem_of_getElem? hj)).1⟩
end Go.Proofs.YtadbbknllakpcaaGreat

/- AllocActs: all the contracts that the document's heap stands on. -/
namespace Go.Proofs.YtadbbknllakpcaaGreat
end Go.Proofs.YtadbbknllakpcaaGreat

/- The document's heap: land. -/
namespace Go.Proofs.YtadbbknllakpcaaGreat
open Go.RowKit
set_option linter.unusedVariables false

/-- The pages of these spans are taken. -/
def CovF (S : List Sp) (f : Nat → Bool) : Prop := f 0 = true ∧ ∀ j, 1 ≤ j → (f j = true ↔ Cov S j)
theorem CovF.rel {S : List Sp} {l : List (Nat × Nat)} {f : Nat → Bool} (h : CovF S f) (hc : rn.Canon l) (hl : LandOf S l) : rn.RelF l f := by
  refine ⟨hc, h.1, fun j => ?_⟩
  rw [hl j]
  constructor
  · rintro ⟨h1, h2, h3⟩
    refine ⟨h1, h2, ?_⟩
    cases hf : f j
    · rfl
    · exact absurd ((h.2 j h1).1 hf) h3
  · rintro ⟨h1, h2, h3⟩
    exact ⟨h1, h2, fun h4 => by rw [(h.2 j h1).2 h4] at h3; cases h3⟩
theorem covF_nil : CovF [] rn.bit0 := ⟨rfl, fun j hj => ⟨fun h => by unfold rn.bit0 at h; have := of_decide_eq_true h; omega, fun ⟨s, hs, _⟩ => by cases hs⟩⟩
theorem covF_next {S : List Sp} {f : Nat → Bool} {i : Nat} {s : Sp} (h : CovF (S.take i) f) (hs : S[i]? = some s) (hp : 1 ≤ s.pg) : CovF (S.take (i + 1)) (rn.setF f s.pg (s.pg + s.ps) true) := by
  have ht : S.take (i + 1) = S.take i ++ [s] := by rw [List.take_add_one, hs]; rfl
  unfold rn.setF
  refine ⟨by simp only []; rw [if_neg (by omega)]; exact h.1, fun j hj => ?_⟩
  rw [ht]
  by_cases hc : s.pg ≤ j ∧ j < s.pg + s.ps
  · simp only [if_pos hc, true_iff]
    exact ⟨s, by simp, hc.1, hc.2⟩
  · simp only [if_neg hc]
    rw [h.2 j hj]
    constructor
    · rintro ⟨t, h1, h2⟩
      exact ⟨t, List.mem_append_left _ h1, h2⟩
    · rintro ⟨t, h1, h2⟩
      rcases List.mem_append.1 h1 with h3 | h3
      · exact ⟨t, h3, h2⟩
      · obtain rfl := List.mem_singleton.1 h3
        exact absurd h2 hc
theorem OneJ.either {W1 w' : World} {c : Nat} {ds : List Nat} {P Q : World → Prop} {g : Nat → Bool} (h : OneJ W1 c ds P g w') (h1 : Q W1) (h2 : ∀ w, P w → Q w) : Q w' := by
  cases hc : g c
  · rw [h.2.1 hc]; exact h1
  · exact h2 _ (h.2.2 hc)
set_option maxHeartbeats 4000000 in
theorem rland_calls (w : World) (R cap : Nat) (A : Option Addr) (Z : List Zp) (K : Nat → Prop) (h : RHp w R A cap Z K) :
    Calls Tryz.prog 31 #[.pointer (some ⟨R, 0, none⟩)] w fun e w' => ∃ L T f, e = .returned (.pointer (some ⟨L, 0, none⟩)) ∧ rn.RefAt w' L T f ∧ CovF (spsZ Z) f ∧ w.heap.size ≤ L ∧ w.heap.size ≤ T ∧ Below w.heap.size w w' := by
  have HR := Lib.hid h
  have hlen := h.len
  have HI := Lib.hid h.inv
  clear h
  go_enter Tryz.func31, Tryz.ntmps31
  go_wp2_with fail
  refine (rn.rnew_calls w).mono ?_
  rintro e w1 ⟨L, T, rfl, hR, hL, hT, hB⟩
  have HRf := Lib.hid hR
  have HB := Lib.hid hB
  have HLT := Lib.hid (And.intro hL hT)
  clear hR hB
  go_wp2_with fail
  go_loopg [4] Z.length (fun q s4 wr => ∃ i, q = Z.length - i ∧ i ≤ Z.length ∧ s4 = .int .i64 (i : Int) ∧ Hid (∃ f, rn.RefAt wr L T f ∧ CovF ((spsZ Z).take i) f) ∧ Hid (Below w.heap.size w wr))
  case atStart => exact ⟨0, by omega, by omega, rfl, Lib.hid ⟨_, HRf.out, covF_nil⟩, HB⟩
  case round =>
    obtain ⟨i, hq, hil, rfl, hf, hb⟩ := hrel
    have HRr := Lib.hid (HR.out.below hb.out)
    have hcell := HRr.out.cell
    by_cases hlt : i < Z.length
    · obtain ⟨z, hz⟩ : ∃ z, Z[i]? = some z := ⟨_, List.getElem?_eq_getElem hlt⟩
      obtain ⟨f, hf1, hf2⟩ := hf.out
      obtain ⟨b, o, rfl, hbl, h4⟩ := HRr.out.at'.four hz
      obtain ⟨hok, _, _⟩ := HRr.out.mem hz
      have hps := hok.ps1
      have HF := Lib.hid hf1
      have HC := Lib.hid hf2
      have H4 := Lib.hid h4
      have HS := Lib.hid (spsZ_at hz)
      have HLt := Lib.hid hlt
      clear hf1 hf2 h4 hz hok
      go_wp2_with fail
      have HC0 := Lib.hid hcell
      refine wp_dag [(15, .pointer (some ⟨L, 0, none⟩)), (16, .pointer (some ⟨R, 0, none⟩)), (17, .pointer (some ⟨R, 0, none⟩)), (18, .pointer (some ⟨R, 0, none⟩)), (19, .slice (some ⟨b, o, none⟩) Z.length cap), (20, .int .i64 (i : Int)), (21, .pointer (some ⟨b, o + i * 4, none⟩)), (22, .pointer (some ⟨b, o + i * 4, none⟩)), (23, .int .i64 (z.1.pg : Int)), (24, .pointer (some ⟨R, 0, none⟩)), (25, .pointer (some ⟨R, 0, none⟩)), (26, .pointer (some ⟨R, 0, none⟩)), (27, .slice (some ⟨b, o, none⟩) Z.length cap), (28, .int .i64 (i : Int)), (29, .pointer (some ⟨b, o + i * 4, none⟩)), (30, .pointer (some ⟨b, o + i * 4 + 1, none⟩)), (31, .int .i64 (z.1.ps : Int)), (32, .int .i64 0)] (OneJ wr.drew 17 [8, 16] (fun w' => ∃ f', rn.RefAt w' L T f' ∧ CovF ((spsZ Z).take (i + 1)) f' ∧ Below w.heap.size w w' ∧ w'.cell? ⟨R, 0, none⟩ = some (.slice (some ⟨b, o, none⟩) Z.length cap))) (by kernel_rfl) (by kernel_rfl) (by kernel_rfl) (by kernel_rfl) .start ?_ ?_
      case refine_1 =>
        refine dag_cons (dag_val (v := .pointer (some ⟨L, 0, none⟩)) (by kernel_rfl) (by kernel_rfl) (fun g0 w' h => by kernel_rfl) (fun g0 w' h => h.same rfl)) ?_
        refine dag_cons (dag_val (v := .pointer (some ⟨R, 0, none⟩)) (by kernel_rfl) (by kernel_rfl) (fun g0 w' h => by kernel_rfl) (fun g0 w' h => h.same rfl)) ?_
        refine dag_cons (dag_val (v := .pointer (some ⟨R, 0, none⟩)) (by kernel_rfl) (by kernel_rfl) (fun g0 w' h => by kernel_rfl) (fun g0 w' h => h.same rfl)) ?_
        refine dag_cons (dag_field (s := 36) (x := .tmp 17) (k := 0) (v1 := .pointer (some ⟨R, 0, none⟩)) (v := .pointer (some ⟨R, 0, none⟩)) (by kernel_rfl) (by kernel_rfl) (by kernel_rfl) (by kernel_rfl) (fun w' => by kernel_rfl) (fun g0 w' h => h.same rfl)) ?_
        refine dag_cons (dag_loadO (t := 22) (d := .slice 27) (x := .tmp 18) (p := ⟨R, 0, none⟩) (v := .slice (some ⟨b, o, none⟩) Z.length cap) (by kernel_rfl) (by kernel_rfl) (by kernel_rfl) (by kernel_rfl) Tryz.underlying22 rfl (fun g0 w' hg h => h.either HC0.out (fun w h => h.choose_spec.2.2.2)) (fun g0 w' h => h.same rfl)) ?_
        refine dag_cons (dag_val (v := .int .i64 (i : Int)) (by kernel_rfl) (by kernel_rfl) (fun g0 w' h => by kernel_rfl) (fun g0 w' h => h.same rfl)) ?_
        refine dag_cons (dag_index (t := 22) (x := .tmp 19) (ix := .tmp 20) (v1 := .slice (some ⟨b, o, none⟩) Z.length cap) (v2 := .int .i64 (i : Int)) (v := .pointer (some ⟨b, o + i * 4, none⟩)) (by kernel_rfl) (by kernel_rfl) (by kernel_rfl) (by kernel_rfl) (by kernel_rfl) (fun w' => run_atS w' b o _ cap i HLt.out) (fun g0 w' h => h.same rfl)) ?_
        refine dag_cons (dag_field (s := 27) (x := .tmp 21) (k := 0) (v1 := .pointer (some ⟨b, o + i * 4, none⟩)) (v := .pointer (some ⟨b, o + i * 4, none⟩)) (by kernel_rfl) (by kernel_rfl) (by kernel_rfl) (by kernel_rfl) (fun w' => by kernel_rfl) (fun g0 w' h => h.same rfl)) ?_
        refine dag_cons (dag_loadO (t := 3) (d := .int .i64) (x := .tmp 22) (p := ⟨b, o + i * 4, none⟩) (v := .int .i64 (z.1.pg : Int)) (by kernel_rfl) (by kernel_rfl) (by kernel_rfl) (by kernel_rfl) Tryz.underlying3 rfl (fun g0 w' hg h => by obtain rfl := h.at rfl hg; exact H4.out.1) (fun g0 w' h => h.same rfl)) ?_
        refine dag_cons (dag_val (v := .pointer (some ⟨R, 0, none⟩)) (by kernel_rfl) (by kernel_rfl) (fun g0 w' h => by kernel_rfl) (fun g0 w' h => h.same rfl)) ?_
        refine dag_cons (dag_val (v := .pointer (some ⟨R, 0, none⟩)) (by kernel_rfl) (by kernel_rfl) (fun g0 w' h => by kernel_rfl) (fun g0 w' h => h.same rfl)) ?_
        refine dag_cons (dag_field (s := 36) (x := .tmp 25) (k := 0) (v1 := .pointer (some ⟨R, 0, none⟩)) (v := .pointer (some ⟨R, 0, none⟩)) (by kernel_rfl) (by kernel_rfl) (by kernel_rfl) (by kernel_rfl) (fun w' => by kernel_rfl) (fun g0 w' h => h.same rfl)) ?_
        refine dag_cons (dag_loadO (t := 22) (d := .slice 27) (x := .tmp 26) (p := ⟨R, 0, none⟩) (v := .slice (some ⟨b, o, none⟩) Z.length cap) (by kernel_rfl) (by kernel_rfl) (by kernel_rfl) (by kernel_rfl) Tryz.underlying22 rfl (fun g0 w' hg h => h.either HC0.out (fun w h => h.choose_spec.2.2.2)) (fun g0 w' h => h.same rfl)) ?_
        refine dag_cons (dag_val (v := .int .i64 (i : Int)) (by kernel_rfl) (by kernel_rfl) (fun g0 w' h => by kernel_rfl) (fun g0 w' h => h.same rfl)) ?_
        refine dag_cons (dag_index (t := 22) (x := .tmp 27) (ix := .tmp 28) (v1 := .slice (some ⟨b, o, none⟩) Z.length cap) (v2 := .int .i64 (i : Int)) (v := .pointer (some ⟨b, o + i * 4, none⟩)) (by kernel_rfl) (by kernel_rfl) (by kernel_rfl) (by kernel_rfl) (by kernel_rfl) (fun w' => run_atS w' b o _ cap i HLt.out) (fun g0 w' h => h.same rfl)) ?_
        refine dag_cons (dag_field (s := 27) (x := .tmp 29) (k := 1) (v1 := .pointer (some ⟨b, o + i * 4, none⟩)) (v := .pointer (some ⟨b, o + i * 4 + 1, none⟩)) (by kernel_rfl) (by kernel_rfl) (by kernel_rfl) (by kernel_rfl) (fun w' => by kernel_rfl) (fun g0 w' h => h.same rfl)) ?_
        refine dag_cons (dag_loadO (t := 3) (d := .int .i64) (x := .tmp 30) (p := ⟨b, o + i * 4 + 1, none⟩) (v := .int .i64 (z.1.ps : Int)) (by kernel_rfl) (by kernel_rfl) (by kernel_rfl) (by kernel_rfl) Tryz.underlying3 rfl (fun g0 w' hg h => by obtain rfl := h.at rfl hg; exact H4.out.2.1) (fun g0 w' h => h.same rfl)) ?_
        refine dag_cons (dag_call2 (f := 68) (args := #[.pointer (some ⟨L, 0, none⟩), .int .i64 (z.1.pg : Int), .int .i64 (z.1.ps : Int), .bool true]) (v := .int .i64 0) (by kernel_rfl) (by kernel_rfl) (fun w' => by kernel_rfl) (fun g0 w' hg hd h => ?_)) ?_
        case refine_1 =>
          have hd4 : g0 8 = true := hd { on := 8, ground := Ground.data } (by simp) rfl
          have hd5 : g0 16 = true := hd { on := 16, ground := Ground.data } (by simp) rfl
          obtain rfl := h.2.1 hg
          refine (rn.turn16_calls wr.drew L T f (z.1.pg : Int) (z.1.ps : Int) true (HF.out.below (Below.refl _ _).drew) (by omega) (by omega)).mono ?_
          rintro e w2 hTu
          rcases hTu with ⟨h1, _⟩ | ⟨x', n', hx, hn, h1, h2⟩
          · have h3 := rn.there_ok (x := z.1.pg) (n := z.1.ps) (by omega) (by omega) (by omega) (by omega)
            rw [h3] at h1; cases h1
          · obtain rfl : x' = z.1.pg := by omega
            obtain rfl : n' = z.1.ps := by omega
            rcases h2 with ⟨⟨j, hj1, hj2, hj3⟩, _⟩ | ⟨_, rfl, hb2, ho2⟩
            · exfalso
              obtain ⟨t, ht, h3, h4⟩ := (HC.out.2 j (by omega)).1 hj3
              have := take_lt HI.out HS.out t ht
              omega
            · have hlt1 := HF.out.lt
              refine ⟨rfl, h.call (by simp [hd4, hd5]) ⟨_, ⟨HF.out.1, HF.out.2.1.only (ho2.of_drew) (fun e => HF.out.1 e), hb2⟩, covF_next HC.out HS.out (by omega), bel_only hb.out ho2.of_drew (Nat.le_refl _) (fun k hk => by subst hk; exact HLT.out.2), ?_⟩⟩
              exact (ho2.cell (p := ⟨R, 0, none⟩) HRr.out.blk.lt (fun e => by have e : R = T := e; have := HR.out.blk.lt; have := HLT.out.2; omega)).trans HC0.out
        exact dag_nil
      case refine_2 =>
        intro w3 hJ
        obtain ⟨f', hf1, hf2, hb3, _⟩ := hJ.fin rfl
        have HF3 := Lib.hid (show ∃ f, rn.RefAt w3 L T f ∧ CovF ((spsZ Z).take (i + 1)) f from ⟨f', hf1, hf2⟩)
        have HB3 := Lib.hid hb3
        clear hJ hf1 hf2 hb3
        simp only [putAll, List.foldl_cons, List.foldl_nil]
        go_frame
        go_wp2
        go_roundg (Z.length - (i + 1))
        case measure => first | (rw [hq]; exact Nat.sub_lt_sub_left HLt.out (Nat.lt_succ_self _)) | exact Nat.sub_lt_sub_left HLt.out (Nat.lt_succ_self _)
        case rel => exact ⟨i + 1, rfl, HLt.out, by go_num, HF3, HB3⟩
    · obtain rfl : i = Z.length := by omega
      obtain ⟨f, hf1, hf2⟩ := hf.out
      rw [List.take_of_length_le (by rw [spsZ_len]; omega)] at hf2
      have HF := Lib.hid (And.intro hf1 hf2)
      clear hf1 hf2
      go_wp2
      go_ret
      exact ⟨L, T, f, rfl, HF.out.1, HF.out.2, HLT.out.1, HLT.out.2, hb.out⟩
end Go.Proofs.YtadbbknllakpcaaGreat

/- The document's heap: put. -/
namespace Go.Proofs.YtadbbknllakpcaaGreat
open Go.RowKit
set_option linter.unusedVariables false

theorem drop_gt {S : List Sp} (hr : Rise (pagesS S)) {i : Nat} {x : Nat} {t : Sp} (ht : S[i]? = some t) (hx : x ≤ t.pg) : ∀ u ∈ S.drop (i + 1), x < u.pg := by
  intro u hu
  obtain ⟨k, hk⟩ := List.mem_iff_getElem?.1 hu
  rw [List.getElem?_drop] at hk
  unfold Rise pagesS at hr
  have h1 := (List.getElem?_eq_some_iff.1 ht).1
  have h2 := (List.getElem?_eq_some_iff.1 hk).1
  have := List.pairwise_iff_getElem.1 hr i (i + 1 + k) (by simpa using h1) (by simpa using h2) (by omega)
  simp only [List.getElem_map, (List.getElem?_eq_some_iff.1 ht).2, (List.getElem?_eq_some_iff.1 hk).2] at this
  omega
/-- What put makes of the list. -/
theorem set_cut {S : List Sp} {s : Sp} {i i' : Nat} (hc : 0 < s.cnt) (h1 : ∀ t ∈ S.take i, t.pg < s.pg) (h2 : ∀ t ∈ S.drop i', s.pg < t.pg) (hi : i' = i ∨ (i' = i + 1 ∧ ∃ t, S[i]? = some t ∧ t.pg = s.pg)) : S.take i ++ s :: S.drop i' = setS S s := by
  have f1 : (S.take i).filter (fun t => decide (t.pg < s.pg)) = S.take i := List.filter_eq_self.2 (fun t ht => decide_eq_true (h1 t ht))
  have f2 : (S.take i).filter (fun t => decide (s.pg < t.pg)) = [] := List.filter_eq_nil_iff.2 (fun t ht => by simp only [decide_eq_true_eq]; have := h1 t ht; omega)
  have f3 : (S.drop i').filter (fun t => decide (t.pg < s.pg)) = [] := List.filter_eq_nil_iff.2 (fun t ht => by simp only [decide_eq_true_eq]; have := h2 t ht; omega)
  have f4 : (S.drop i').filter (fun t => decide (s.pg < t.pg)) = S.drop i' := List.filter_eq_self.2 (fun t ht => decide_eq_true (h2 t ht))
  unfold setS
  rw [if_pos hc]
  rcases hi with rfl | ⟨rfl, t, ht, hp⟩
  · have hs := List.take_append_drop i' S
    have e1 : S.filter (fun t => decide (t.pg < s.pg)) = S.take i' := by rw [← hs, List.filter_append, hs, f1, f3, List.append_nil]
    have e2 : S.filter (fun t => decide (s.pg < t.pg)) = S.drop i' := by rw [← hs, List.filter_append, hs, f2, f4, List.nil_append]
    rw [e1, e2]
    rfl
  · have hs : S.take i ++ t :: S.drop (i + 1) = S := by
      have := (List.getElem?_eq_some_iff.1 ht).2
      rw [← this, List.getElem_cons_drop, List.take_append_drop]
    have e1 : S.filter (fun t => decide (t.pg < s.pg)) = S.take i := by
      have h3 := congrArg (List.filter (fun t => decide (t.pg < s.pg))) hs
      rw [List.filter_append, List.filter_cons, f1, f3, if_neg (by simp only [decide_eq_true_eq]; omega), List.append_nil] at h3
      exact h3.symm
    have e2 : S.filter (fun t => decide (s.pg < t.pg)) = S.drop (i + 1) := by
      have h3 := congrArg (List.filter (fun t => decide (s.pg < t.pg))) hs
      rw [List.filter_append, List.filter_cons, f2, f4, if_neg (by simp only [decide_eq_true_eq]; omega), List.nil_append] at h3
      exact h3.symm
    rw [e1, e2]
    rfl
theorem four_oneZ (a b c : Int) (A : Option Addr) (n k : Nat) : ∀ u ∈ (#[Value.int .i64 a, Value.int .i64 b, Value.int .i64 c, Value.slice A n k]).toList, u.oneCell' = true := fun u hu => by
  simp at hu
  rcases hu with rfl | rfl | rfl | rfl <;> rfl
/-- The rest of a list, to be read. -/
theorem rd_rest {w : World} {A : Option Addr} {Z : List Zp} {K : Nat → Prop} {cap i : Nat} (h : ZAt w A Z K) (hc : Z.length ≤ cap) (hi : i ≤ Z.length) : RdAt w (if cap = i then A else A.map (·.add (i * 4))) (Z.length - i) (cz (Z.drop i)) := by
  by_cases h0 : i = Z.length
  · exact .inl (by omega)
  · rcases h.rd with h1 | ⟨b, o, rfl, hl, hcl⟩
    · omega
    · rw [if_neg (by omega)]
      refine .inr ⟨b, o + i * 4, by simp [Addr.add], hl, fun j u hu => ?_⟩
      rw [← cz_drop, List.getElem?_drop] at hu
      have := hcl _ u hu
      rwa [← Nat.add_assoc] at this
theorem own_capZ {w : World} {B n c size : Nat} {e : TypeId} {A : Option Addr} {xs : List Value} (h : w.ownsRow B e size (.slice A n c) n xs) : n ≤ c := by
  rcases ownsRow_form h with ⟨hv, h0⟩ | ⟨g, cap, hv, _, _, hnc, _⟩
  · omega
  · cases hv; exact hnc
/-- The list that put has made, noted in the heap's block. -/
theorem put_made {w w9 : World} {R cap i i' : Nat} {A : Option Addr} {Z : List Zp} {K : Nat → Prop} {s : Sp} {B : Option Addr} {c : Nat} {v : Value} (h : RHp w R A cap Z K) (hK : ∀ k, K k → k < w.heap.size) (hW : WordsAt w B s.len s.f) (hB : Far w K B) (hS : (spsZ Z).take i ++ s :: (spsZ Z).drop i' = setS (spsZ Z) s) (hinv : Inv (setS (spsZ Z) s))
    (hb : Below w.heap.size w w9) (ho : w9.ownsRow (w.heap.size + 1) 27 4 v (Z.take i ++ (s, B, c) :: Z.drop i').length (cz (Z.take i ++ (s, B, c) :: Z.drop i'))) :
    RStep w (w9.setCell ⟨R, 0, none⟩ v) R (setS (spsZ Z) s) K := by
  obtain ⟨A', c', rfl⟩ := ownsRow_slice ho
  have hR := h.blk.lt
  have hsz := hb.size
  have ho9 : Only (fun k => k = R) w (w9.setCell ⟨R, 0, none⟩ (.slice A' (Z.take i ++ (s, B, c) :: Z.drop i').length c')) := (Only.of_below (S := fun k => k = R) hb).set (p := ⟨R, 0, none⟩) (fun _ => rfl) _
  have hone : Only (fun k => k = R) w9 (w9.setCell ⟨R, 0, none⟩ (.slice A' (Z.take i ++ (s, B, c) :: Z.drop i').length c')) := (Only.refl (fun k => k = R) w9).set (p := ⟨R, 0, none⟩) (fun _ => rfl) _
  have hsp : spsZ (Z.take i ++ (s, B, c) :: Z.drop i') = setS (spsZ Z) s := by
    rw [← hS]
    unfold spsZ
    simp [List.map_take, List.map_drop]
  refine ⟨A', c', Z.take i ++ (s, B, c) :: Z.drop i', hsp, ⟨?_, ⟨?_, ?_, ?_⟩, by rw [hsp]; exact hinv, own_capZ ho, h.own⟩, ho9⟩
  · have := ((h.blk.below hb).set 0 (.slice A' (Z.take i ++ (s, B, c) :: Z.drop i').length c'))
    exact this
  · exact (RdAt.of_own ho).only hone (fun x y e hx => by
      subst e
      have := (ho.lt x rfl).1
      omega)
  · intro b o e
    subst e
    have := ho.lt b rfl
    refine ⟨?_, fun hk => by have := hK b hk; omega⟩
    have := hone.size
    omega
  · intro z hz
    have hcase : z ∈ Z ∨ z = (s, B, c) := by
      rcases List.mem_append.1 hz with h1 | h1
      · exact .inl (List.mem_of_mem_take h1)
      · rcases List.mem_cons.1 h1 with h1 | h1
        · exact .inr h1
        · exact .inl (List.mem_of_mem_drop h1)
    rcases hcase with h1 | rfl
    · have := h.at'.wrd z h1
      exact ⟨this.1.only ho9 (fun x y e hx => by subst hx; exact this.2.not _ y e h.own), this.2.grow ho9.size⟩
    · exact ⟨hW.only ho9 (fun x y e hx => by subst hx; exact hB.not _ y e h.own), hB.grow ho9.size⟩
theorem drop_ge {S : List Sp} (hr : Rise (pagesS S)) {i : Nat} {x : Nat} {t : Sp} (ht : S[i]? = some t) (hx : x < t.pg) : ∀ u ∈ S.drop i, x < u.pg := by
  intro u hu
  have h1 := (List.getElem?_eq_some_iff.1 ht).1
  rw [← List.getElem_cons_drop h1, (List.getElem?_eq_some_iff.1 ht).2] at hu
  rcases List.mem_cons.1 hu with rfl | h
  · exact hx
  · exact drop_gt hr ht (Nat.le_of_lt hx) u h
theorem put_list {w9 : World} {b i i' m c : Nat} {v : Value} {Z : List Zp} {s : Sp} {B : Option Addr} {ys : List Value} (hi : i ≤ Z.length) (hm : i' + m = Z.length) (h : w9.ownsRow b 27 4 v (i + 1 + m) (cz (Z.take i) ++ (#[Value.int .i64 (s.pg : Int), .int .i64 (s.ps : Int), .int .i64 s.cl, .slice B s.len c]).toList ++ ys)) (hy : ys = cz (Z.drop i')) :
    w9.ownsRow b 27 4 v (Z.take i ++ (s, B, c) :: Z.drop i').length (cz (Z.take i ++ (s, B, c) :: Z.drop i')) := by
  subst hy
  rw [show (Z.take i ++ (s, B, c) :: Z.drop i').length = i + 1 + m by simp; omega, cz_append]
  rw [List.append_assoc] at h
  exact h
theorem cz_snoc {Z : List Zp} {i : Nat} {z : Zp} (h : Z[i]? = some z) : cz (Z.take (i + 1)) = cz (Z.take i) ++ [.int .i64 (z.1.pg : Int), .int .i64 (z.1.ps : Int), .int .i64 z.1.cl, .slice z.2.1 z.1.len z.2.2] := by
  rw [List.take_add_one, h, cz_append]
  rfl
theorem cz_mid {Z : List Zp} {i i' : Nat} {s : Sp} {B : Option Addr} {c : Nat} : cz (Z.take i) ++ [.int .i64 (s.pg : Int), .int .i64 (s.ps : Int), .int .i64 s.cl, .slice B s.len c] ++ cz (Z.drop i') = cz (Z.take i ++ (s, B, c) :: Z.drop i') := by
  rw [cz_append, List.append_assoc]
  rfl
theorem own_grown {B : Nat} {w w1 w5 : World} {e : TypeId} {size n : Nat} {v : Value} {xs : List Value} (hb : Below B w w1) (ho : w1.ownsRow B e size v n xs) (hs : B ≤ w.heap.size) (hg : w1.grownBy w5 v.ownBlock) : Below B w w5 := hb.grown hg (Nat.le_trans hs hb.size) (fun k hk => (ho.lt k hk).1)
set_option maxRecDepth 8000 in
set_option maxHeartbeats 8000000 in
theorem rput_calls (w : World) (R cap : Nat) (A : Option Addr) (Z : List Zp) (K : Nat → Prop) (s : Sp) (B : Option Addr) (c : Nat) (h : RHp w R A cap Z K) (hK : ∀ k, K k → k < w.heap.size) (hW : WordsAt w B s.len s.f) (hB : Far w K B) (hc : 0 < s.cnt) (hinv : Inv (setS (spsZ Z) s)) :
    Calls Tryz.prog 34 #[.pointer (some ⟨R, 0, none⟩), s.v B c] w fun e w' => e = .returned (.tuple #[]) ∧ RStep w w' R (setS (spsZ Z) s) K := by
  obtain ⟨i0, hi0, hz0, hz1, hz2⟩ := info_parts info_SpanH
  obtain ⟨w1, hw1, hS1, hB1⟩ := one_span w s.pg s.ps s.cl B s.len c
  have hlen := h.len
  have HFin := Lib.hid (fun (w9 : World) (i i' : Nat) (v : Value) (hS : (spsZ Z).take i ++ s :: (spsZ Z).drop i' = setS (spsZ Z) s) (hb : Below w.heap.size w w9) ho => put_made (i := i) (i' := i') (c := c) (v := v) (w9 := w9) h hK hW hB hS hinv hb ho)
  have HR1 := Lib.hid (h.below hB1)
  have HS1 := Lib.hid hS1
  have HB1 := Lib.hid hB1
  have HRise := Lib.hid (h.inv.rise)
  have HCap := Lib.hid h.cap
  have hsz1 : w1.heap.size = w.heap.size + 1 := by rw [← hw1]; simp
  have hRlt := h.blk.lt
  clear h hK hW hB hinv hS1 hB1
  unfold Sp.v spV
  go_enter Tryz.func34, Tryz.ntmps34
  go_wp2_with fail
  clear hw1
  go_loopg [4, 5] Z.length (fun q s4 s5 wr => ∃ i, q = Z.length - i ∧ i ≤ Z.length ∧ s5 = .int .i64 (i : Int) ∧ Hid (wr.ownsRow (w.heap.size + 1) 27 4 s4 i (cz (Z.take i))) ∧ Hid (∀ t ∈ (spsZ Z).take i, t.pg < s.pg) ∧ Hid (Below (w.heap.size + 1) w1 wr))
  case atStart => exact ⟨0, by omega, by omega, rfl, Lib.hid (World.ownsRow_nil _ _ _ _), Lib.hid (fun t ht => by simp at ht), Lib.hid (Below.refl _ _)⟩
  case round =>
    obtain ⟨i, hq, hil, rfl, ho, hlow, hb⟩ := hrel
    have hbw : Below w1.heap.size w1 wr := hsz1 ▸ hb.out
    have HRr := Lib.hid (HR1.out.below hbw)
    have HSr := Lib.hid (HS1.out.below hbw)
    have hcell := HRr.out.cell
    obtain ⟨s0, s1, s2, s3⟩ := HSr.out.cells
    have HO := ho
    clear hbw
    by_cases hlt : i < Z.length
    · obtain ⟨z, hz⟩ : ∃ z, Z[i]? = some z := ⟨_, List.getElem?_eq_getElem hlt⟩
      obtain ⟨b, o, rfl, hbl, f0, f1, f2, f3⟩ := HRr.out.at'.four hz
      obtain ⟨hok, _, _⟩ := HRr.out.mem hz
      have hps := hok.ps1
      have HZ := Lib.hid hz
      have HLt := Lib.hid hlt
      clear hz hok
      by_cases hcmp : z.1.pg < s.pg
      · have hd : decide ((z.1.pg : Int) < (s.pg : Int)) = true := decide_eq_true (by omega)
        have hd2 : decide (z.1.pg < s.pg) = true := decide_eq_true hcmp
        go_wp2_with fail
        go_quiet (fail)
        have HOq := Lib.hid (show (wr.drewN nq).ownsRow (w.heap.size + 1) 27 4 u4 i (cz (Z.take i)) from ho.out)
        have hbs : w.heap.size + 1 ≤ wr.heap.size := by have := hb.out.size; omega
        go_wp2_with (at_builtin; refine wpList_append_new rfl (.tmp 26) (.tmp 34) 22 rfl (w.heap.size + 1) 27 i0 _ 4 48 Tryz.underlying22 hi0 hz0 hz1 hz2 rfl (by decide) u4 i 1 _ rfl HOq.out rfl rfl (four_oneZ _ _ _ _ _ _) (by omega) (by unfold maxLen; omega) hbs ?_; intro v2 w5 hown2 hgr2 hnew2)
        have HO5 := Lib.hid (show w5.ownsRow (w.heap.size + 1) 27 4 v2 (i + 1) (cz (Z.take (i + 1))) from by rw [cz_snoc HZ.out]; exact hown2)
        have HB5 := Lib.hid (show Below (w.heap.size + 1) w1 w5 from own_grown (below_drewN hb.out nq) HOq.out (by omega) hgr2)
        have HL5 := Lib.hid (show ∀ t ∈ (spsZ Z).take (i + 1), t.pg < s.pg from fun t ht => by
          rw [List.take_add_one, spsZ_at HZ.out] at ht
          rcases List.mem_append.1 ht with h1 | h1
          · exact hlow.out t h1
          · simp at h1; subst h1; exact hcmp)
        clear hown2 hgr2 hnew2
        go_roundg (Z.length - (i + 1))
        case measure => first | (rw [hq]; exact Nat.sub_lt_sub_left HLt.out (Nat.lt_succ_self _)) | exact Nat.sub_lt_sub_left HLt.out (Nat.lt_succ_self _)
        case rel => exact ⟨i + 1, rfl, HLt.out, by go_num, HO5, HL5, HB5⟩
      · have hd : decide ((z.1.pg : Int) < (s.pg : Int)) = false := decide_eq_false (by omega)
        have hd2 : decide (z.1.pg < s.pg) = false := decide_eq_false hcmp
        by_cases heq : z.1.pg = s.pg
        · go_wp2_with fail
          go_quiet (fail)
          have HOq := Lib.hid (show (wr.drewN nq).ownsRow (w.heap.size + 1) 27 4 u4 i (cz (Z.take i)) from ho.out)
          have hbs : w.heap.size + 1 ≤ wr.heap.size := by have := hb.out.size; omega
          go_wp2_with (at_builtin; refine wpList_append_new rfl (.tmp 38) (.tmp 40) 22 rfl (w.heap.size + 1) 27 i0 _ 4 48 Tryz.underlying22 hi0 hz0 hz1 hz2 rfl (by decide) u4 i 1 _ rfl HOq.out rfl rfl (four_oneZ _ _ _ _ _ _) (by omega) (by unfold maxLen; omega) hbs ?_; intro v2 w5 hown2 hgr2 hnew2)
          have HO5 := Lib.hid hown2
          have HB5 := Lib.hid (show Below (w.heap.size + 1) w1 w5 from own_grown (below_drewN hb.out nq) HOq.out (by omega) hgr2)
          clear hown2 hgr2 hnew2 hcell s0 s1 s2 s3 f0 f1 f2 f3
          have HR5 := Lib.hid (HR1.out.below (hsz1 ▸ HB5.out))
          have HS5 := Lib.hid (HS1.out.below (hsz1 ▸ HB5.out))
          have hcell := HR5.out.cell
          obtain ⟨s0, s1, s2, s3⟩ := HS5.out.cells
          obtain ⟨b2, o2, he2, hbl2, f0, f1, f2, f3⟩ := HR5.out.at'.four HZ.out
          cases he2
          have he3 : ((z.1.pg : Int) == (s.pg : Int)) = true := by rw [heq]; exact beq_self_eq_true _
          go_wp2_with fail
          go_quiet (fail)
          have hfr := HR5.out.blk.free 0
          have hbs5 : w.heap.size + 1 ≤ w5.heap.size := by have := HB5.out.size; omega
          have HOz := Lib.hid (show (w5.drewN nq).ownsRow (w.heap.size + 1) 27 4 v2 (i + 1) _ from HO5.out)
          by_cases hcp : cap = i + 1
          · go_wp2_with (at_builtin; refine wpList_append_rd rfl (.tmp 65) (.tmp 71) 22 rfl (w.heap.size + 1) 27 i0 _ 4 48 Tryz.underlying22 hi0 hz0 hz1 hz2 rfl (by decide) v2 (i + 1) _ rfl HOz.out _ _ _ rfl (cz []) (by have := HCap.out; simp [cz]; omega) (.inl (by have := HCap.out; omega)) (cz_one _) (by omega) (by unfold maxLen; omega) hbs5 ?_; intro v9 w9 hown9 hgr9 hnew9 _; obtain ⟨A9, c9, rfl⟩ := ownsRow_slice hown9; have HB9 := Lib.hid (own_grown (below_drewN HB5.out nq) HOz.out (by omega) hgr9); have hfr9 := (HR1.out.blk.below (hsz1 ▸ HB9.out)).free 0; have hcl9 := (HR1.out.below (hsz1 ▸ HB9.out)).cell)
            go_end0
            exact ⟨rfl, HFin.out _ i (i + 1) _ (set_cut hc hlow.out (drop_gt HRise.out (spsZ_at HZ.out) (by omega)) (.inr ⟨rfl, z.1, spsZ_at HZ.out, heq⟩)) (bel_next HB1.out (hsz1 ▸ HB9.out) (Nat.le_refl _)) (put_list (by omega) (by have := HCap.out; omega) hown9 (by rw [List.drop_of_length_le (by have := HCap.out; omega)]))⟩
          · go_wp2_with (at_builtin; refine wpList_append_rd rfl (.tmp 65) (.tmp 71) 22 rfl (w.heap.size + 1) 27 i0 _ 4 48 Tryz.underlying22 hi0 hz0 hz1 hz2 rfl (by decide) v2 (i + 1) _ rfl HOz.out _ _ _ rfl (cz (Z.drop (i + 1))) (by rw [cz_len, List.length_drop]) (by have h := rd_rest HR5.out.at' HCap.out (show i + 1 ≤ Z.length by omega); rw [if_neg hcp, show ((some ⟨b, o, none⟩ : Option Addr).map fun x => x.add ((i + 1) * 4)) = some ⟨b, o + (i + 1) * 4, none⟩ by simp [Addr.add]] at h; exact h) (cz_one _) (by omega) (by unfold maxLen; omega) hbs5 ?_; intro v9 w9 hown9 hgr9 hnew9 _; obtain ⟨A9, c9, rfl⟩ := ownsRow_slice hown9; have HB9 := Lib.hid (own_grown (below_drewN HB5.out nq) HOz.out (by omega) hgr9); have hfr9 := (HR1.out.blk.below (hsz1 ▸ HB9.out)).free 0; have hcl9 := (HR1.out.below (hsz1 ▸ HB9.out)).cell)
            go_end0
            exact ⟨rfl, HFin.out _ i (i + 1) _ (set_cut hc hlow.out (drop_gt HRise.out (spsZ_at HZ.out) (by omega)) (.inr ⟨rfl, z.1, spsZ_at HZ.out, heq⟩)) (bel_next HB1.out (hsz1 ▸ HB9.out) (Nat.le_refl _)) (put_list (by omega) (by have := HCap.out; omega) hown9 rfl)⟩
        · go_wp2_with fail
          go_quiet (fail)
          have HOq := Lib.hid (show (wr.drewN nq).ownsRow (w.heap.size + 1) 27 4 u4 i (cz (Z.take i)) from ho.out)
          have hbs : w.heap.size + 1 ≤ wr.heap.size := by have := hb.out.size; omega
          go_wp2_with (at_builtin; refine wpList_append_new rfl (.tmp 38) (.tmp 40) 22 rfl (w.heap.size + 1) 27 i0 _ 4 48 Tryz.underlying22 hi0 hz0 hz1 hz2 rfl (by decide) u4 i 1 _ rfl HOq.out rfl rfl (four_oneZ _ _ _ _ _ _) (by omega) (by unfold maxLen; omega) hbs ?_; intro v2 w5 hown2 hgr2 hnew2)
          have HO5 := Lib.hid hown2
          have HB5 := Lib.hid (show Below (w.heap.size + 1) w1 w5 from own_grown (below_drewN hb.out nq) HOq.out (by omega) hgr2)
          clear hown2 hgr2 hnew2 hcell s0 s1 s2 s3 f0 f1 f2 f3
          have HR5 := Lib.hid (HR1.out.below (hsz1 ▸ HB5.out))
          have HS5 := Lib.hid (HS1.out.below (hsz1 ▸ HB5.out))
          have hcell := HR5.out.cell
          obtain ⟨s0, s1, s2, s3⟩ := HS5.out.cells
          obtain ⟨b2, o2, he2, hbl2, f0, f1, f2, f3⟩ := HR5.out.at'.four HZ.out
          cases he2
          have he3 : ((z.1.pg : Int) == (s.pg : Int)) = false := by rw [beq_eq_false_iff_ne]; omega
          go_wp2_with fail
          go_quiet (fail)
          have hfr := HR5.out.blk.free 0
          have hbs5 : w.heap.size + 1 ≤ w5.heap.size := by have := HB5.out.size; omega
          have HOz := Lib.hid (show (w5.drewN nq).ownsRow (w.heap.size + 1) 27 4 v2 (i + 1) _ from HO5.out)
          have hcp : ¬ cap = i := by have := HCap.out; omega
          go_wp2_with (at_builtin; refine wpList_append_rd rfl (.tmp 65) (.tmp 71) 22 rfl (w.heap.size + 1) 27 i0 _ 4 48 Tryz.underlying22 hi0 hz0 hz1 hz2 rfl (by decide) v2 (i + 1) _ rfl HOz.out _ _ _ rfl (cz (Z.drop i)) (by rw [cz_len, List.length_drop]) (by have h := rd_rest HR5.out.at' HCap.out (show i ≤ Z.length by omega); rw [if_neg hcp, show ((some ⟨b, o, none⟩ : Option Addr).map fun x => x.add (i * 4)) = some ⟨b, o + i * 4, none⟩ by simp [Addr.add]] at h; exact h) (cz_one _) (by omega) (by unfold maxLen; omega) hbs5 ?_; intro v9 w9 hown9 hgr9 hnew9 _; obtain ⟨A9, c9, rfl⟩ := ownsRow_slice hown9; have HB9 := Lib.hid (own_grown (below_drewN HB5.out nq) HOz.out (by omega) hgr9); have hfr9 := (HR1.out.blk.below (hsz1 ▸ HB9.out)).free 0; have hcl9 := (HR1.out.below (hsz1 ▸ HB9.out)).cell)
          go_end0
          exact ⟨rfl, HFin.out _ i i _ (set_cut hc hlow.out (drop_ge HRise.out (spsZ_at HZ.out) (by omega)) (.inl rfl)) (bel_next HB1.out (hsz1 ▸ HB9.out) (Nat.le_refl _)) (put_list (by omega) (by have := HCap.out; omega) hown9 rfl)⟩
    · obtain rfl : i = Z.length := by omega
      have hd0 : decide (Z.length < Z.length) = false := decide_eq_false (by omega)
      go_wp2_with fail
      go_quiet (fail)
      have HOq := Lib.hid (show (wr.drewN nq).ownsRow (w.heap.size + 1) 27 4 u4 Z.length (cz (Z.take Z.length)) from ho.out)
      have hbs : w.heap.size + 1 ≤ wr.heap.size := by have := hb.out.size; omega
      go_wp2_with (at_builtin; refine wpList_append_new rfl (.tmp 38) (.tmp 40) 22 rfl (w.heap.size + 1) 27 i0 _ 4 48 Tryz.underlying22 hi0 hz0 hz1 hz2 rfl (by decide) u4 Z.length 1 _ rfl HOq.out rfl rfl (four_oneZ _ _ _ _ _ _) (by omega) (by unfold maxLen; omega) hbs ?_; intro v2 w5 hown2 hgr2 hnew2)
      have HO5 := Lib.hid hown2
      have HB5 := Lib.hid (show Below (w.heap.size + 1) w1 w5 from own_grown (below_drewN hb.out nq) HOq.out (by omega) hgr2)
      clear hown2 hgr2 hnew2 hcell s0 s1 s2 s3
      have HR5 := Lib.hid (HR1.out.below (hsz1 ▸ HB5.out))
      have HS5 := Lib.hid (HS1.out.below (hsz1 ▸ HB5.out))
      have hcell := HR5.out.cell
      obtain ⟨s0, s1, s2, s3⟩ := HS5.out.cells
      go_wp2_with fail
      go_quiet (fail)
      have hfr := HR5.out.blk.free 0
      have hbs5 : w.heap.size + 1 ≤ w5.heap.size := by have := HB5.out.size; omega
      have HOz := Lib.hid (show (w5.drewN nq).ownsRow (w.heap.size + 1) 27 4 v2 (Z.length + 1) _ from HO5.out)
      by_cases hcp : cap = Z.length
      · go_wp2_with (at_builtin; refine wpList_append_rd rfl (.tmp 65) (.tmp 71) 22 rfl (w.heap.size + 1) 27 i0 _ 4 48 Tryz.underlying22 hi0 hz0 hz1 hz2 rfl (by decide) v2 (Z.length + 1) _ rfl HOz.out _ _ _ rfl (cz []) (by simp [cz]) (.inl (by omega)) (cz_one _) (by omega) (by unfold maxLen; omega) hbs5 ?_; intro v9 w9 hown9 hgr9 hnew9 _; obtain ⟨A9, c9, rfl⟩ := ownsRow_slice hown9; have HB9 := Lib.hid (own_grown (below_drewN HB5.out nq) HOz.out (by omega) hgr9); have hfr9 := (HR1.out.blk.below (hsz1 ▸ HB9.out)).free 0; have hcl9 := (HR1.out.below (hsz1 ▸ HB9.out)).cell)
        go_end0
        exact ⟨rfl, HFin.out _ Z.length Z.length _ (set_cut hc hlow.out (fun t ht => by rw [List.drop_of_length_le (by rw [spsZ_len]; omega)] at ht; cases ht) (.inl rfl)) (bel_next HB1.out (hsz1 ▸ HB9.out) (Nat.le_refl _)) (put_list (by omega) (by have := HCap.out; omega) hown9 (by rw [List.drop_length]))⟩
      · go_wp2_with (at_builtin; refine wpList_append_rd rfl (.tmp 65) (.tmp 71) 22 rfl (w.heap.size + 1) 27 i0 _ 4 48 Tryz.underlying22 hi0 hz0 hz1 hz2 rfl (by decide) v2 (Z.length + 1) _ rfl HOz.out _ _ _ rfl (cz []) (by simp [cz]) (.inl (by omega)) (cz_one _) (by omega) (by unfold maxLen; omega) hbs5 ?_; intro v9 w9 hown9 hgr9 hnew9 _; obtain ⟨A9, c9, rfl⟩ := ownsRow_slice hown9; have HB9 := Lib.hid (own_grown (below_drewN HB5.out nq) HOz.out (by omega) hgr9); have hfr9 := (HR1.out.blk.below (hsz1 ▸ HB9.out)).free 0; have hcl9 := (HR1.out.below (hsz1 ▸ HB9.out)).cell)
        go_end0
        exact ⟨rfl, HFin.out _ Z.length Z.length _ (set_cut hc hlow.out (fun t ht => by rw [List.drop_of_length_le (by rw [spsZ_len]; omega)] at ht; cases ht) (.inl rfl)) (bel_next HB1.out (hsz1 ▸ HB9.out) (Nat.le_refl _)) (put_list (by omega) (by have := HCap.out; omega) hown9 (by rw [List.drop_length]))⟩
end Go.Proofs.YtadbbknllakpcaaGreat
