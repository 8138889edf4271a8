/- Maps keyed by int whose elements are told as they are. -/
import Derived.Test.YtadbbknllakpcaaGreatBase
import Derived.Test.YtadbbknllakpcaaGreatApp
import Derived.Maps.OwnSet
import Derived.Maps.RangeWalk
namespace Go.Proofs.YtadbbknllakpcaaGreat
open Go.RowKit Go.Maps
set_option linter.unusedVariables false

/-- How an element is told: as it is. -/
def asIs (v : Value) : Option (DataW Value × List MemPlace) := some (.held v, [])
def Tells (D : DataW Value) (m : Int → Option Value) : Prop := IsMap D ∧ ∀ (x : Int), (Lit.int .i64 x).wf = true → ∀ z, D.atKey (.int .i64 x) z = (match m x with | some v => .held v | none => z)
/-- Block b is a map that holds these. -/
def MapIs (w : World) (b n : Nat) (m : Int → Option Value) : Prop := ∃ D : DataW Value, w.ownsMap Tryz.prog 3 asIs b n D ∧ Tells D m
def mput (m : Int → Option Value) (x : Int) (v : Value) : Int → Option Value := fun y => if y = x then some v else m y
def mdel (m : Int → Option Value) (x : Int) : Int → Option Value := fun y => if y = x then none else m y
theorem keyI : Keyed Tryz.prog 3 := int_keyed Tryz.underlying3
theorem keyI_of {x : Int} (h : (Lit.int .i64 x).wf = true) : keyOf Tryz.prog 3 (.int .i64 x) = some (.int .i64 x) := keyOf_int_mk Tryz.underlying3 h
theorem MapIs.made (w : World) : MapIs (w.alloc (.map #[] 0)) w.heap.size 0 (fun _ => none) :=
  ⟨.map [], World.ownsMap_made w _ _ _, ⟨[], rfl⟩, fun x _ z => rfl⟩
theorem MapIs.lt {w : World} {b n : Nat} {m : Int → Option Value} (h : MapIs w b n m) : b < w.heap.size := by
  obtain ⟨D, h1, _⟩ := h
  exact h1.lt
theorem MapIs.of_block {w w' : World} {b n : Nat} {m : Int → Option Value} (h : MapIs w b n m) (hb : w'.heap[b]? = w.heap[b]?) : MapIs w' b n m := by
  obtain ⟨D, ⟨es, clock, h1, h2⟩, h3⟩ := h
  exact ⟨D, ⟨es, clock, hb.trans h1, h2⟩, h3⟩
theorem MapIs.only {w w' : World} {b n : Nat} {m : Int → Option Value} {S : Nat → Prop} (h : MapIs w b n m) (o : Only S w w') (hS : ¬ S b) : MapIs w' b n m := h.of_block (o.block b h.lt hS)
theorem MapIs.below {w w' : World} {b n : Nat} {m : Int → Option Value} (h : MapIs w b n m) (o : Below w.heap.size w w') : MapIs w' b n m := h.of_block (o.block b h.lt)
theorem MapIs.mono {w : World} {b n k : Nat} {m : Int → Option Value} (h : MapIs w b n m) (hk : n ≤ k) : MapIs w b k m := by
  obtain ⟨D, h1, h2⟩ := h
  exact ⟨D, h1.mono hk, h2⟩
theorem MapIs.look {w : World} {b n : Nat} {m : Int → Option Value} (h : MapIs w b n m) {t e : TypeId} (ht : Tryz.prog.underlying t = some (.map 3 e)) {z : Value} (hz : (zeroValue e).run Tryz.prog w = .ok z w) {x : Int} (hx : (Lit.int .i64 x).wf = true) :
    (Instr.lookup t (.map (some b)) (.int .i64 x) false).run Tryz.prog w = .ok ((m x).getD z) w := by
  obtain ⟨D, h1, _, h2⟩ := h
  obtain ⟨v, ps, hr, hv⟩ := h1.lookup keyI ht hz (zd := .held z) (zp := []) rfl (keyI_of hx)
  rw [hr, h2 x hx] at *
  have h3 : (some (DataW.held v, ([] : List MemPlace))) = some ((match m x with | some v => DataW.held v | none => DataW.held z), ps) := hv
  cases hm : m x with
  | none => rw [hm] at h3; simp at h3; simp [h3.1]
  | some u => rw [hm] at h3; simp at h3; simp [h3.1]
theorem MapIs.store {w : World} {b n : Nat} {m : Int → Option Value} (h : MapIs w b n m) {t e : TypeId} (ht : Tryz.prog.underlying t = some (.map 3 e)) (hn : n < maxLen) {x : Int} (hx : (Lit.int .i64 x).wf = true) (v : Value) :
    ∃ w', (Instr.mapUpdate t (.map (some b)) (.int .i64 x) v).run Tryz.prog w = .ok () w' ∧ MapIs w' b (n + 1) (mput m x v) ∧ Only (· = b) w w' ∧ w'.heap.size = w.heap.size := by
  obtain ⟨D, h1, hD, h2⟩ := h
  obtain ⟨w', hr, ho, hg⟩ := h1.store keyI ht hn (keyI_of hx) (val := v) (d := .held v) (ps := []) rfl
  refine ⟨w', hr, ⟨_, ho, hD.put _ _, fun y hy z => ?_⟩, Only.grown (Only.refl _ w) hg.grown (fun k hk _ => by cases hk; rfl), ?_⟩
  · unfold mput
    by_cases e : y = x
    · subst e
      rw [atKey_put_same hD (keyI.key (keyI_of hy)), if_pos rfl]
    · rw [atKey_put_other (by intro h; cases h; exact e rfl), h2 y hy z, if_neg e]
  · obtain ⟨es, clock, es', clock', _, rfl⟩ := hg
    simp [ChangeMaps.setBlock]
theorem MapIs.drop {w : World} {b n : Nat} {m : Int → Option Value} (h : MapIs w b n m) {t e : TypeId} (ht : Tryz.prog.underlying t = some (.map 3 e)) {x : Int} (hx : (Lit.int .i64 x).wf = true) (ty : TypeId) :
    ∃ w', (Builtin.delete_ #[t, 3] ty #[.map (some b), .int .i64 x]).run Tryz.prog w = .ok (.tuple #[]) w' ∧ MapIs w' b n (mdel m x) ∧ Only (· = b) w w' ∧ w'.heap.size = w.heap.size := by
  obtain ⟨D, h1, hD, h2⟩ := h
  obtain ⟨w', hr, ho, hg⟩ := h1.drop keyI ht (keyI_of hx) ty
  refine ⟨w', hr, ⟨_, ho, hD.del _, fun y hy z => ?_⟩, Only.grown (Only.refl _ w) hg.grown (fun k hk _ => by cases hk; rfl), ?_⟩
  · unfold mdel
    by_cases e : y = x
    · subst e
      rw [atKey_del_same, if_pos rfl]
    · rw [atKey_del_other (by intro h; cases h; exact e rfl), h2 y hy z, if_neg e]
  · obtain ⟨es, clock, es', clock', _, rfl⟩ := hg
    simp [ChangeMaps.setBlock]
end Go.Proofs.YtadbbknllakpcaaGreat
