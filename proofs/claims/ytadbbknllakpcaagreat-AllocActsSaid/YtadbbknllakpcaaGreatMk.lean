/- make([]T, n) of one-cell zeros, as an equation. No program in sight. -/
import Derived.Test.YtadbbknllakpcaaGreatMem
import Derived.Test.YtadbbknllakpcaaGreatBase
namespace Go.Proofs.YtadbbknllakpcaaGreat
open Go.RowKit
set_option linter.unusedVariables false
def zrow (n : Nat) (u : Value) : Array Value := (List.replicate n u).toArray
theorem zrow_toList (n : Nat) (u : Value) : (zrow n u).toList = List.replicate n u := rfl
theorem run_make1 {P : Program} (w : World) (t e : TypeId) (i : TypeInfo) (z u : Value) (ht : P.underlying t = some (.slice e)) (hi : P.info? e = some i) (hz : i.zero = some z) (hzc : z.cells = #[u]) (hs : i.size = 1)
    (n : Nat) (hb : i.bytes * n ≤ 281474976710656) (hn : n ≤ 9223372036854775807) :
    (Instr.makeSlice t (.int .i64 n) (.int .i64 n)).run P w = .ok (.slice (some ⟨w.heap.size, 0, none⟩) n n) (w.alloc (.cells (zrow n u) e)) := by
  have := run_make (P := P) w t e i z ht hi hz .i64 .i64 (n : Int) (n : Int) (by omega) (Int.le_refl _) (by rw [← Int.natCast_mul]; omega) (by omega)
  rw [Int.toNat_natCast, hs, Nat.mul_one] at this
  rw [this, hzc]
  congr 2
  unfold madeCells zrow
  congr 1
  apply Array.ext
  · simp
  · intro j h1 h2
    simp [Nat.mod_one]

theorem Tryz.info_u64 : (Tryz.prog.info? 64).map (fun i => (i.zero, i.size, i.bytes)) = some (some (.int .u64 0), 1, 8) := by kernel_rfl
theorem Tryz.info_bool : (Tryz.prog.info? 4).map (fun i => (i.zero, i.size, i.bytes)) = some (some (.bool false), 1, 1) := by kernel_rfl
end Go.Proofs.YtadbbknllakpcaaGreat
