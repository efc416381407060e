/- Closed facts of the row of 'SoloMore'. -/
import Derived.Test.YtnfcoikbkmhggaaGreatRowFacts
set_option linter.all false
set_option linter.unusedVariables false
set_option linter.unusedSimpArgs false
namespace Go.Proofs.YtnfcoikbkmhggaaGreat
theorem f3_inPlace : Tryz.prog.inPlace 3 = [] := by kernel_rfl
theorem f3_unfollowed : Tryz.prog.unfollowed 3 = true := by kernel_rfl
theorem f3_recurses : Tryz.prog.recurses 3 = true := by kernel_rfl
theorem f3_named : Tryz.prog.varsNamed 3 = [] := by kernel_rfl
theorem f3_facts : joinedFacts Tryz.prog 3 Tryz.f3 Rows.soloMoreSpec Rows.soloMoreRow = true := by
  unfold joinedFacts
  rw [Tryz.laidOut, Tryz.mapsRowed, f3_inPlace, f3_unfollowed, f3_recurses, f3_named, Tryz.plainKeys0, Tryz.stopsHeard0, Tryz.mayEnter0, Tryz.liftsFinal0, Tryz.make0]
  kernel_rfl
end Go.Proofs.YtnfcoikbkmhggaaGreat
