/- Closed facts of the program that every row asks for. -/
import Derived.Test.YtnfcoikbkmhggaaGreatRows
import Derived.Conc.Holds
import Derived.ProofKit
set_option linter.all false
set_option linter.unusedVariables false
set_option linter.unusedSimpArgs false
namespace Go.Proofs.YtnfcoikbkmhggaaGreat
theorem Tryz.own : ownKnob Tryz.prog.godebug = none := by kernel_rfl
theorem Tryz.laidOut : laidOutB Tryz.prog = true := by kernel_rfl
theorem Tryz.mapsRowed : mapsRowed Tryz.prog = true := by kernel_rfl
theorem Tryz.plainKeys0 : Tryz.prog.plainKeys = Rows.soloMoreRow.plainKeys := by kernel_rfl
theorem Tryz.stopsHeard0 : Tryz.prog.stopsHeard = true := by kernel_rfl
theorem Tryz.mayEnter0 : Tryz.prog.mayEnter = true := by kernel_rfl
theorem Tryz.liftsFinal0 : Tryz.prog.liftsFinal = Rows.soloMoreRow.lifted := by kernel_rfl
theorem Tryz.make0 : Tryz.prog.make = some Rows.soloMoreRow.make := by kernel_rfl
end Go.Proofs.YtnfcoikbkmhggaaGreat
