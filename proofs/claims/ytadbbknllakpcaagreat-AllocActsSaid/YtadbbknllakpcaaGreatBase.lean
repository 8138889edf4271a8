/- Small words shared by the walks of this seat. -/
import Derived.Test.YtadbbknllakpcaaGreatProg
import Derived.Test.YtadbbknllakpcaaGreatLib
import Derived.WalkLawsBesides
import Derived.WalkSpells
import Derived.Lib.Hide
import Derived.BigQuiet
namespace Go.Proofs.YtadbbknllakpcaaGreat
open Go.RowKit
set_option linter.unusedVariables false

theorem ret_eq {k : IntKind} {a b : Int} (h : a = b) : Ending.returned (.int k a) = .returned (.int k b) := by rw [h]
theorem ret_bool {a b : Bool} (h : a = b) : Ending.returned (.bool a) = .returned (.bool b) := by rw [h]
theorem Tryz.info_int : (Tryz.prog.info? 3).map (fun i => (i.zero, i.size, i.bytes)) = some (some (.int .i64 0), 1, 8) := by kernel_rfl
theorem pow_pos2 (c : Nat) : 0 < 2 ^ c := Nat.pow_pos (by omega)
theorem pow_cast (c : Nat) : ((2 ^ c : Nat) : Int) = 2 ^ c := by simp
end Go.Proofs.YtadbbknllakpcaaGreat
