/- The append laws as steps of a region that draws its order. No program in sight. -/
import Derived.Test.YtadbbknllakpcaaApp
import Derived.Deep.AppendLies
import Derived.Deep.RegionHeld3
namespace Go.Proofs.Ytadbbknllakpcaa
open Go.RowKit
set_option linter.unusedVariables false

theorem run_append_rd {P : Program} {w : World} (base : Nat) (t ty e : TypeId) (i : TypeInfo) (z : Value) (size bytes : Nat) (ht : P.underlying t = some (.slice e)) (hi : P.info? e = some i) (hz : i.zero = some z)
    (hsize : i.size = size) (hby : i.bytes = bytes) (hzs : z.cells.size = size) (hsz : 0 < size)
    (v : Value) (n : Nat) (xs : List Value) (hown : w.ownsRow base e size v n xs)
    (A : Option Addr) (m c : Nat) (ys : List Value) (hm : ys.length = m * size) (hr : RdAt w A m ys) (h1 : ∀ u ∈ ys, u.oneCell' = true)
    (hbytes : (n + m) * bytes ≤ 140737488355328) (h63 : n + m ≤ maxLen) (hbase : base ≤ w.heap.size) :
    ∃ v' w', (Builtin.append_ #[t, t] ty #[v, .slice A m c]).run P w = .ok v' w' ∧ w'.ownsRow base e size v' (n + m) (xs ++ ys) ∧ w.grownBy w' v.ownBlock ∧ NewRow w.heap.size v v' ∧ (v' = .slice none 0 0 ↔ v = .slice none 0 0 ∧ m = 0) := by
  rcases A with _ | ad
  · have hm0 : m = 0 := by
      rcases hr with h | ⟨b, o, h, _⟩
      · exact h
      · cases h
    subst hm0
    obtain rfl : ys = [] := List.eq_nil_of_length_eq_zero (by simpa using hm)
    exact ⟨v, w, run_append_nil_src (P := P) w base t ty e i size ht hi v n xs hown c, by simpa using hown, World.grownBy.refl w _, .inl rfl, by simp⟩
  · obtain ⟨v', w', hrun, h2, h3, h4, h5⟩ := run_append_own_at (P := P) w base t ty e i z size bytes ht hi hz hsize hby hzs hsz v n xs hown ad m c ys hm (by
      intro j y hj
      rcases hr with hm0 | ⟨b, o, hA, hlt, hc⟩
      · subst hm0
        obtain rfl : ys = [] := List.eq_nil_of_length_eq_zero (by simpa using hm)
        simp at hj
      · cases hA
        rw [show (⟨b, o, none⟩ : Addr).add j = ⟨b, o + j, none⟩ by unfold Addr.add; split <;> simp_all]
        exact hc j y hj) h1 h63 hbytes hbase
    refine ⟨v', w', hrun, h2, h3, ?_, h4⟩
    rcases h5 with h5 | h5
    · exact .inl h5
    · exact .inr ⟨_, h5, Nat.le_refl _⟩
theorem step_append_rd {P : Program} {w : World} {ops : Array Oper} {o : Oper} {a : Act} {K : Act → World → Prop} {Q : Exit → Act → World → Prop} {E : Prop} (hgd : o.guard = none) (s x : Operand) (t : TypeId)
    (ho : o.op = .call { callee := .builtin .append, args := #[s, x], argTypes := #[t, t] })
    (base : Nat) (e : TypeId) (i : TypeInfo) (z : Value) (size bytes : Nat) (ht : P.underlying t = some (.slice e)) (hi : P.info? e = some i) (hz : i.zero = some z)
    (hsize : i.size = size) (hby : i.bytes = bytes) (hzs : z.cells.size = size) (hsz : 0 < size)
    (v : Value) (n : Nat) (xs : List Value) (hs : a.eval s = v) (hown : w.ownsRow base e size v n xs)
    (A : Option Addr) (m c : Nat) (hx : a.eval x = .slice A m c) (ys : List Value) (hm : ys.length = m * size) (hr : RdAt w A m ys) (h1 : ∀ u ∈ ys, u.oneCell' = true)
    (hbytes : (n + m) * bytes ≤ 140737488355328) (h63 : n + m ≤ maxLen) (hbase : base ≤ w.heap.size)
    (h : ∀ v' w', w'.ownsRow base e size v' (n + m) (xs ++ ys) → w.grownBy w' v.ownBlock → NewRow w.heap.size v v' → K (a.put o.dst v') w') :
    if Region.wanted o (yielded ops a.tmps) = true then Oper.wp P o a w K Q else E := by
  have hw : Region.wanted o (yielded ops a.tmps) = true := by simp [Region.wanted, hgd]
  rw [if_pos hw]
  obtain ⟨v', w', hrun, h2, h3, h4, _⟩ := run_append_rd (P := P) base t o.type e i z size bytes ht hi hz hsize hby hzs hsz v n xs hown A m c ys hm hr h1 hbytes h63 hbase
  unfold Oper.wp execOp
  simp only [ho, resolve, invoke, builtin, Sem.run_bind, Sem.run_pure, Result.andThen_ok, List.map_toArray, List.map_cons, List.map_nil, hs, hx, hrun]
  exact h v' w' h2 h3 h4
theorem lit_own (w : World) (H : Nat) (e : TypeId) (hH : H ≤ w.heap.size) : (w.alloc (.cells #[] e)).ownsRow H e 1 (.slice (some ⟨w.heap.size, 0, none⟩) 0 0) 0 [] :=
  World.ownsRow_made w #[] 0 hH (by simp) (by simp)
theorem lit_block (X : Nat) : (Value.slice (some (⟨X, 0, none⟩ : Addr)) 0 0).ownBlock = some X := by simp [Value.ownBlock]
theorem lit_below {wr w0 w5 : World} {H X : Nat} (hb : Below H wr w0) (hH : H ≤ w0.heap.size) (hX : H ≤ X) (hg : w0.grownBy w5 (Value.slice (some (⟨X, 0, none⟩ : Addr)) 0 0).ownBlock) : Below H wr w5 :=
  hb.grown hg hH (fun k hk => by rw [lit_block] at hk; cases hk; exact hX)
theorem own_below {wr w5 w6 : World} {H n size : Nat} {e : TypeId} {v : Value} {xs : List Value} (hb : Below H wr w5) (ho : w5.ownsRow H e size v n xs) (hH : H ≤ w5.heap.size) (hg : w5.grownBy w6 v.ownBlock) : Below H wr w6 :=
  hb.grown hg hH (fun k hk => (ho.lt k hk).1)
theorem lit_apart {w w5 : World} {X Y : Nat} {v5 : Value} {cs : List Value} {t : TypeId} (hk : Blk w Y cs t) (hXY : X ≠ Y) (hg : w.grownBy w5 (Value.slice (some (⟨X, 0, none⟩ : Addr)) 0 0).ownBlock) (hn : NewRow w.heap.size (Value.slice (some (⟨X, 0, none⟩ : Addr)) 0 0) v5) :
    Blk w5 Y cs t ∧ v5.ownBlock ≠ some Y := by
  have hlt := hk.lt
  refine ⟨hk.of_heap (hg.block Y hlt (by rw [lit_block]; intro e; cases e; exact hXY rfl)), ?_⟩
  rcases hn with hn | ⟨k, hk2, hle⟩
  · rw [hn, lit_block]; intro e; cases e; exact hXY rfl
  · rw [hk2]; intro e; cases e; omega
end Go.Proofs.Ytadbbknllakpcaa
