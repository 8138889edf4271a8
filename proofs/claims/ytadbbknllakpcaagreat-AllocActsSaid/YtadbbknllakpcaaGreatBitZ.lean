/- The walks of Words, and of the document's Same. -/
import Derived.Test.YtadbbknllakpcaaGreatBitD
import Derived.Test.YtadbbknllakpcaaGreatLib
import Derived.Deep.Slices
import Derived.Deep.Fields
import Derived.ChangeSame
import Derived.OpenShut
namespace Go.Proofs.YtadbbknllakpcaaGreat
open Go.RowKit
set_option linter.unusedVariables false

/-- The words of f as cells. -/
def wdV (n : Nat) (f : Nat → Bool) : List Value := fnV n fun k => .int .u64 (wd f k)
theorem wdV_length (n : Nat) (f : Nat → Bool) : (wdV n f).length = n := fnV_length _ _
theorem wdV_at (n : Nat) (f : Nat → Bool) (i : Nat) (h : i < n) : (wdV n f)[i]? = some (.int .u64 (wd f i)) := fnV_at _ _ _ h
theorem wdV_one (n : Nat) (f : Nat → Bool) : ∀ u ∈ wdV n f, u.oneCell' = true := fun v hv => by obtain ⟨k, _, rfl⟩ := List.mem_map.1 hv; rfl

theorem words_row (w : World) (r a c n : Nat) (f g : Nat → Bool) (h : RowMid w r a c n f g) :
    Calls Tryz.prog 86 #[.pointer (some ⟨r, 0, none⟩)] w fun e w' => ∃ v, e = .returned v ∧ w'.ownsRow w.heap.size 64 1 v (wn n) (wdV (wn n) f) ∧ Below w.heap.size w w' := by
  have c1 := h.2.2.2.1.cell 1
  have hn := h.2.1
  have HR := Lib.hid (RdAt.of_blk (n := wn n) h.2.2.2.2.1)
  simp only [List.getElem?_cons_zero, List.getElem?_cons_succ] at c1
  have hW : wn n ≤ 65536 := by unfold wn; omega
  clear h
  go_enter Tryz.func86, Tryz.ntmps86
  go_wp2_with fail
  refine (clone_u64 _ _ (wn n) (wn n) (wdV (wn n) f) (by rw [wdV_length, Nat.mul_one]) HR.out (wdV_one _ _) (by omega)).mono ?_
  rintro e w1 ⟨v, rfl, hown, _, hb⟩
  have HO := Lib.hid hown
  have HB := Lib.hid hb
  clear hown hb
  go_wp2
  go_ret
  exact ⟨_, rfl, HO.out, HB.out⟩

set_option maxHeartbeats 1000000 in
theorem same8_yes (w : World) (A B : Option Addr) (n ca cb : Nat) (f : Nat → Bool) (hA : RdAt w A n (wdV n f)) (hB : RdAt w B n (wdV n f)) (hn : n ≤ 9223372036854775807) :
    Calls Tryz.prog 77 #[.slice A n ca, .slice B n cb] w fun e w' => e = .returned (.bool true) ∧ Below w.heap.size w w' := by
  have HA := Lib.hid hA
  have HB := Lib.hid hB
  clear hA hB
  have hne : ((n : Int) != (n : Int)) = false := by simp
  go_enter Tryz.func77, Tryz.ntmps77
  go_wp2_with fail
  go_loopg [5] n (fun q i wr => ∃ j : Nat, q + j = n ∧ i = .int .i64 j ∧ Below w.heap.size w wr)
  case atStart => exact ⟨0, by omega, rfl, Below.refl _ _⟩
  case round =>
    obtain ⟨j, hj, rfl, hb⟩ := hrel
    have HBl := Lib.hid hb
    by_cases hlt : j < n
    · obtain ⟨b1, o1, rfl, hl1, hc1⟩ := (HA.out.below hb).resolve_left (by omega)
      obtain ⟨b2, o2, rfl, hl2, hc2⟩ := (HB.out.below hb).resolve_left (by omega)
      have x1 := hc1 j _ (wdV_at n f j hlt)
      have x2 := hc2 j _ (wdV_at n f j hlt)
      have hx : ((wd f j : Int) != (wd f j : Int)) = false := by simp
      clear hb hc1 hc2
      go_wp2_with fail
      go_quiet (fail)
      go_wp2
      go_roundg (gk - 1)
      case measure => omega
      case rel => exact ⟨j + 1, by omega, by go_num, below_drewN HBl.out _⟩
    · obtain rfl : j = n := by omega
      clear hb
      go_wp2
      go_ret
      exact ⟨rfl, HBl.out⟩
end Go.Proofs.YtadbbknllakpcaaGreat

/- A slice of structs of one-cell fields as it comes in: every field of every element, in its cell. No program in sight. -/
namespace Go.Proofs.YtadbbknllakpcaaGreat
open Go.RowKit Go.ChangeShapes Go.WideShapes Go.Deep
set_option linter.unusedVariables false

/-- What a walk is told of a slice of structs: k cells an element; R: what field j's value is known to be. -/
def RowsAt (w : World) (a : Option Addr) (len k : Nat) (R : Nat → Nat → Value → Prop) : Prop :=
  len ≤ maxLen ∧ (len = 0 ∨ ∃ b o, a = some ⟨b, o, none⟩ ∧ b < w.heap.size ∧ ∀ i, i < len → ∀ j, j < k → ∃ v, w.cell? ⟨b, o + (i * k + j), none⟩ = some v ∧ R i j v)

theorem open_rows {H : Type} {enc : TypeId × Value → H} {P : Program} {w : World} {base : Nat} {spare : Nat → Bool} {held : Bool} {t e : TypeId} {fs : Array Field} {v : Value} {d : DataW H} {p : List MemPlace}
    (ht : P.underlying t = some (.slice e)) (he : P.underlying e = some (.struct fs)) (hone : oneCellFields P fs = true) (hC : P.cellsOf e = fs.size) (hpos : 0 < fs.size)
    (hv : ∃ a len cap, v = .slice a len cap) (h : DataW.Trod enc P w base spare held t v d p) :
    ∃ q : Option Addr × Nat × Nat, v = .slice q.1 q.2.1 q.2.2 ∧ RowsAt w q.1 q.2.1 fs.size (fun i j v => ∀ f, fs[j]? = some f → ∃ y n, DataW.trod enc P w base spare held n f.type [v] = some y) := by
  obtain ⟨a, len, cap, rfl⟩ := hv
  refine ⟨(a, len, cap), rfl, ?_⟩
  obtain ⟨fuel, hf⟩ := h
  rcases open_slice ht hf with ⟨hcs, _⟩ | ⟨x, l, c, m, n, D, Pl, hcs, _, hl, hm, hmm, _, hi⟩
  · simp [Value.cells] at hcs
    obtain ⟨rfl, rfl, rfl⟩ := hcs
    exact ⟨by simp, .inl rfl⟩
  · simp [Value.cells] at hcs
    obtain ⟨rfl, rfl, rfl⟩ := hcs
    refine ⟨by show len ≤ maxLen; omega, ?_⟩
    by_cases h0 : len = 0
    · exact .inl h0
    refine .inr ?_
    have hlm : len ≤ m := by rw [hmm]; split <;> omega
    have key : ∀ i, i < len → ∀ j, j < fs.size → ∃ v, w.cell? (x.add (i * fs.size + j)) = some v ∧ ∀ f, fs[j]? = some f → ∃ y n, DataW.trod enc P w base spare held n f.type [v] = some y := by
      intro i hil j hj
      obtain ⟨cs', h1, h2⟩ := hi i (by omega)
      rw [hC] at h1
      obtain ⟨_, hlen, hcell⟩ := World.cells?_some h1
      obtain ⟨xs, k, hk, hxy, _, hxl, hff⟩ := DataW.trod_struct he h2
      have hjl : j < cs'.length := by omega
      refine ⟨cs'[j], ?_, fun f hfj => ?_⟩
      · have := hcell j (by omega)
        rw [add_add] at this
        rw [this]; simp [hjl]
      · have hg := hff j f hfj
        obtain ⟨ho, hc1⟩ := hone_of hone j f hfj
        rw [ho, hc1, take1_drop cs' j undef hjl] at hg
        have e : cs'.getD j undef = cs'[j] := by simp [List.getD, hjl]
        rw [e] at hg
        have hx : j < xs.length := by omega
        exact ⟨xs[j], k, by rw [hg]; simp [hx]⟩
    obtain ⟨b, o, spot⟩ := x
    have hspot : spot = none := by
      obtain ⟨v, hv, _⟩ := key 0 (by omega) 0 hpos
      simpa [Addr.add] using World.cell?_spot hv
    subst hspot
    refine ⟨b, o, rfl, ?_, fun i hi j hj => ?_⟩
    · obtain ⟨v, hv, _⟩ := key 0 (by omega) 0 hpos
      rw [add_plain] at hv
      exact World.block_lt_of_cell? w _ hv
    · obtain ⟨v, hv, hr⟩ := key i hi j hj
      rw [add_plain] at hv
      exact ⟨v, hv, hr⟩
end Go.Proofs.YtadbbknllakpcaaGreat

/- The words of a row that came in, as bits. No program in sight. -/
namespace Go.Proofs.YtadbbknllakpcaaGreat
open Go.RowKit
set_option linter.unusedVariables false

/-- The bits of words. -/
def fOf (zs : List Int) (i : Nat) : Bool := ((zs[i / 64]?.getD 0).toNat).testBit (i % 64)
theorem fOf_out (zs : List Int) (i : Nat) (h : 64 * zs.length ≤ i) : fOf zs i = false := by
  unfold fOf
  rw [List.getElem?_eq_none (by omega)]
  simp
theorem fOf_wd (zs : List Int) (k : Nat) (hk : k < zs.length) (h0 : 0 ≤ zs[k]) (h1 : zs[k] ≤ 18446744073709551615) : ((wd (fOf zs) k : Nat) : Int) = zs[k] := by
  have e : wd (fOf zs) k = (zs[k]).toNat := by
    apply Nat.eq_of_testBit_eq
    intro j
    rw [wd_testBit]
    by_cases hj : j < 64
    · unfold fOf
      rw [show (64 * k + j) / 64 = k by omega, show (64 * k + j) % 64 = j by omega, List.getElem?_eq_getElem hk]
      simp [hj]
    · have : (zs[k]).toNat < 2 ^ j := Nat.lt_of_lt_of_le (by omega : (zs[k]).toNat < 2 ^ 64) (Nat.pow_le_pow_right (by omega) (by omega))
      rw [Nat.testBit_lt_two_pow this]
      simp [hj]
  rw [e]; omega
theorem fOf_cells (zs : List Int) (h : ∀ n ∈ zs, 0 ≤ n ∧ n ≤ 18446744073709551615) : zs.map (Value.int .u64) = wdV zs.length (fOf zs) := by
  apply List.ext_getElem
  · simp [wdV_length]
  · intro j h1 h2
    have hj : j < zs.length := by simpa using h1
    have := wdV_at zs.length (fOf zs) j hj
    rw [List.getElem?_eq_getElem h2] at this
    injection this with this
    rw [this]
    have hb := h _ (List.getElem_mem hj)
    rw [fOf_wd zs j hj hb.1 hb.2]
    simp
/-- A slice of words that came in: what bits it has. -/
theorem words_of_row {w : World} {a : Option Addr} {len cap : Nat} {zs : List Int} (h : IsRow .u64 w a len cap zs) : ∃ f : Nat → Bool, RdAt w a len (wdV len f) ∧ ∀ i, 64 * len ≤ i → f i = false := by
  have hr := RdAt.of_ints h
  rcases h with ⟨rfl, rfl, rfl, rfl⟩ | ⟨x, rfl, h1, h2, h3, h4, h5⟩
  · exact ⟨fun _ => false, .inl rfl, fun _ _ => rfl⟩
  · have hl : (zs.take len).length = len := by simp; omega
    refine ⟨fOf (zs.take len), ?_, fun i hi => fOf_out _ i (by omega)⟩
    rw [fOf_cells _ (fun n hn => wf_u64 (h5 n (List.mem_of_mem_take hn))), hl] at hr
    exact hr
end Go.Proofs.YtadbbknllakpcaaGreat
