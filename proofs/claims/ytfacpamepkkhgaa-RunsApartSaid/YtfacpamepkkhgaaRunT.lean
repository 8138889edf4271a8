/- Two rows of numbers beside the land: what calls and appends leave. -/
import Derived.Test.YtfacpamepkkhgaaRunB
namespace Go.Proofs.Ytfacpamepkkhgaa
open Go.RowKit
set_option linter.unusedVariables false

def natsV (l : List Nat) : List Value := l.map fun (z : Nat) => .int .i64 (z : Int)
theorem natsV_snoc (l : List Nat) (z : Nat) : natsV l ++ [.int .i64 (z : Int)] = natsV (l ++ [z]) := by unfold natsV; simp
theorem natsV_one (l : List Nat) : ∀ v ∈ natsV l, v.oneCell' = true := fun v hv => by obtain ⟨z, _, rfl⟩ := List.mem_map.1 hv; rfl
theorem natsV_at {l : List Nat} {j z : Nat} (h : l[j]? = some z) : (natsV l)[j]? = some (.int .i64 (z : Int)) := by unfold natsV; rw [List.getElem?_map, h]; rfl
theorem ownsRow_only2 {w w' : World} {base size n : Nat} {e : TypeId} {xs : List Value} {v : Value} {S : Nat → Prop} (h : w.ownsRow base e size v n xs) (o : Only S w w') (hS : ∀ k, v.ownBlock = some k → ¬ S k) : w'.ownsRow base e size v n xs := by
  refine ⟨h.1, ?_⟩
  rcases h.2 with h2 | ⟨g, cap, cur, hv, hg, hh, r⟩
  · exact .inl h2
  · exact .inr ⟨g, cap, cur, hv, hg, (o.block g (Array.getElem?_eq_some_iff.1 hh).1 (hS g (by rw [hv]; simp [Value.ownBlock]))).trans hh, r⟩
/-- The row lies neither in L nor in g. -/
def Off (v : Value) (L g : Nat) : Prop := v.ownBlock ≠ some L ∧ v.ownBlock ≠ some g
theorem Off.nil (L g : Nat) : Off (.slice none 0 0) L g := ⟨by simp [Value.ownBlock], by simp [Value.ownBlock]⟩
/-- The land, and two rows of the call's own. -/
structure Two (w0 wr : World) (L g cap : Nat) (l : List (Nat × Nat)) (xs ys : List Nat) (v1 v2 : Value) : Prop where
  land : LandAt wr L g cap l
  hL : w0.heap.size ≤ L
  hg : w0.heap.size ≤ g
  o1 : wr.ownsRow w0.heap.size 3 1 v1 xs.length (natsV xs)
  o2 : wr.ownsRow w0.heap.size 3 1 v2 ys.length (natsV ys)
  ap : Apart v1 v2
  f1 : Off v1 L g
  f2 : Off v2 L g
  bel : Below w0.heap.size w0 wr
theorem Two.new {w0 w1 : World} {L g cap : Nat} {l : List (Nat × Nat)} (h : LandAt w1 L g cap l) (hL : w0.heap.size ≤ L) (hg : w0.heap.size ≤ g) (hb : Below w0.heap.size w0 w1) : Two w0 w1 L g cap l [] [] (.slice none 0 0) (.slice none 0 0) :=
  ⟨h, hL, hg, World.ownsRow_nil _ _ _ _, World.ownsRow_nil _ _ _ _, Apart.nil _, Off.nil _ _, Off.nil _ _, hb⟩
theorem Two.step {w0 wr w' : World} {L g cap : Nat} {l l' : List (Nat × Nat)} {xs ys : List Nat} {v1 v2 : Value} (h : Two w0 wr L g cap l xs ys v1 v2) (hr : LandR wr L g l' w') : ∃ g' cap', Two w0 w' L g' cap' l' xs ys v1 v2 := by
  obtain ⟨g', cap', hl, hg', ho⟩ := hr
  have hs := h.bel.size
  have hgg := h.hg
  have off : ∀ {v : Value} {n : Nat} {zs : List Value}, wr.ownsRow w0.heap.size 3 1 v n zs → Off v L g → Off v L g' := fun hv hf => by
    refine ⟨hf.1, fun e => ?_⟩
    rcases hg' with h | h
    · exact hf.2 (h ▸ e)
    · have := (hv.lt _ e).2; omega
  refine ⟨g', cap', hl, h.hL, ?_, ownsRow_only2 h.o1 ho (fun k hk hS => ?_), ownsRow_only2 h.o2 ho (fun k hk hS => ?_), h.ap, off h.o1 h.f1, off h.o2 h.f2, bel_only h.bel ho (Nat.le_refl _) (fun i hi => ?_)⟩
  · rcases hg' with h | h <;> omega
  · rcases hS with rfl | rfl
    · exact h.f1.1 hk
    · exact h.f1.2 hk
  · rcases hS with rfl | rfl
    · exact h.f2.1 hk
    · exact h.f2.2 hk
  · have := h.hL
    rcases hi with rfl | rfl <;> omega
theorem Two.below {w0 wr w' : World} {L g cap : Nat} {l : List (Nat × Nat)} {xs ys : List Nat} {v1 v2 : Value} (h : Two w0 wr L g cap l xs ys v1 v2) (hb : Below wr.heap.size wr w') : Two w0 w' L g cap l xs ys v1 v2 :=
  ⟨h.land.below hb, h.hL, h.hg, ownsRow_below h.o1 hb, ownsRow_below h.o2 hb, h.ap, h.f1, h.f2, bel_next h.bel hb (Nat.le_refl _)⟩
theorem Two.grow {w0 wr w5 w6 : World} {L g cap x y : Nat} {l : List (Nat × Nat)} {xs ys : List Nat} {v1 v2 v1' v2' : Value} (h : Two w0 wr L g cap l xs ys v1 v2)
    (hown1 : w5.ownsRow w0.heap.size 3 1 v1' (xs.length + 1) (natsV xs ++ [.int .i64 (x : Int)])) (hgr1 : wr.grownBy w5 v1.ownBlock) (hnew1 : NewRow (wr.heap.size + 1) v1 v1')
    (hown2 : w6.ownsRow w0.heap.size 3 1 v2' (ys.length + 1) (natsV ys ++ [.int .i64 (y : Int)])) (hgr2 : w5.grownBy w6 v2.ownBlock) (hnew2 : NewRow (w5.heap.size + 1) v2 v2') :
    Two w0 w6 L g cap l (xs ++ [x]) (ys ++ [y]) v1' v2' := by
  have hlt := h.land.lt
  have s5 := hgr1.size
  have hN2 := ownsRow_grown h.o2 hgr1 h.ap
  have hap1 : Apart v1' v2 := h.ap.grown h.o2 hnew1 (by omega)
  have hap2 : Apart v2' v1' := hap1.symm.grown hown1 hnew2 (by omega)
  have hN1 := ownsRow_grown hown1 hgr2 hap1.symm
  have hon : Only (fun k => v1.ownBlock = some k ∨ v2.ownBlock = some k) wr w6 := ((Only.refl _ wr).grown hgr1 (fun k hk _ => .inl hk)).grown hgr2 (fun k hk _ => .inr hk)
  have off : ∀ {v v' : Value} {B : Nat}, wr.heap.size ≤ B → NewRow B v v' → Off v L g → Off v' L g := fun hB hn hf => by
    rcases hn with e | ⟨k, e, hk⟩
    · exact ⟨fun h => hf.1 (e ▸ h), fun h => hf.2 (e ▸ h)⟩
    · refine ⟨fun h => ?_, fun h => ?_⟩ <;> rw [e] at h <;> cases h <;> omega
  refine ⟨h.land.only hon (fun hh => ?_) (fun hh => ?_), h.hL, h.hg, ?_, ?_, hap2.symm, off (by omega) hnew1 h.f1, off (by omega) hnew2 h.f2, ?_⟩
  · rcases hh with hh | hh
    · exact h.f1.1 hh
    · exact h.f2.1 hh
  · rcases hh with hh | hh
    · exact h.f1.2 hh
    · exact h.f2.2 hh
  · rw [← natsV_snoc, List.length_append]; exact hN1
  · rw [← natsV_snoc, List.length_append]; exact hown2
  · exact bel_only h.bel hon (Nat.le_refl _) (fun i hi => by
      rcases hi with hi | hi
      · exact (h.o1.lt i hi).1
      · exact (h.o2.lt i hi).1)
theorem Two.at1 {w0 wr : World} {L g cap n1 e1 x a : Nat} {l : List (Nat × Nat)} {xs ys : List Nat} {B1 : Option Addr} {v2 : Value} (h : Two w0 wr L g cap l xs ys (.slice B1 n1 e1) v2) (hx : xs[x]? = some a) : ∃ b, B1 = some ⟨b, 0, none⟩ ∧ wr.cell? ⟨b, x, none⟩ = some (.int .i64 (a : Int)) := by
  have hl := (List.getElem?_eq_some_iff.1 hx).1
  obtain ⟨b, hb, _, _, hc⟩ := (ownsRow_rd h.o1).resolve_left (by omega)
  exact ⟨b, hb, hc x _ (natsV_at hx)⟩
theorem Two.at2 {w0 wr : World} {L g cap n1 e1 x a : Nat} {l : List (Nat × Nat)} {xs ys : List Nat} {B1 : Option Addr} {v1 : Value} (h : Two w0 wr L g cap l xs ys v1 (.slice B1 n1 e1)) (hx : ys[x]? = some a) : ∃ b, B1 = some ⟨b, 0, none⟩ ∧ wr.cell? ⟨b, x, none⟩ = some (.int .i64 (a : Int)) := by
  have hl := (List.getElem?_eq_some_iff.1 hx).1
  obtain ⟨b, hb, _, _, hc⟩ := (ownsRow_rd h.o2).resolve_left (by omega)
  exact ⟨b, hb, hc x _ (natsV_at hx)⟩
theorem Two.drew {w0 wr : World} {L g cap : Nat} {l : List (Nat × Nat)} {xs ys : List Nat} {v1 v2 : Value} (h : Two w0 wr L g cap l xs ys v1 v2) : Two w0 wr.drew L g cap l xs ys v1 v2 := h.below (Below.refl _ _).drew
end Go.Proofs.Ytfacpamepkkhgaa
