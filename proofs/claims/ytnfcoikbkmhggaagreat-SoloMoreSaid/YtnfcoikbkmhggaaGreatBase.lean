/- Small facts for the walks. -/
import Derived.Test.YtnfcoikbkmhggaaGreatInst
import Derived.Test.YtnfcoikbkmhggaaGreatOps4
set_option linter.all false
set_option linter.unusedVariables false
set_option linter.unusedSimpArgs false
namespace Go.BL
def ints (ws : List Int) : List Value := ws.map (Value.int .i64)
@[simp] theorem ints_length (ws : List Int) : (ints ws).length = ws.length := by simp [ints]
theorem ints_get {ws : List Int} {i : Nat} {x : Int} (h : ws[i]? = some x) : (ints ws)[i]? = some (.int .i64 x) := by simp [ints, h]
theorem ones_ints : ∀ ws : List Int, ones (ints ws) = true
  | [] => rfl
  | x :: ws => by
    show ((Value.int .i64 x).oneCell' && ones (ints ws)) = true
    rw [ones_ints ws]; rfl
theorem ints_set (ws : List Int) (i : Nat) (x : Int) : (ints ws).set i (.int .i64 x) = ints (ws.set i x) := by simp [ints, List.map_set]
end Go.BL
namespace Go.Proofs
theorem Tryz.mixed : Tryz.prog.follows .mixedOrders = true := by kernel_rfl
end Go.Proofs
