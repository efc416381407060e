/- 'SoloMore': the given statement. -/
import Derived.Test.YtnfcoikbkmhggaaGreatArgsT
import Derived.Test.YtnfcoikbkmhggaaGreatMore
import Derived.Test.YtnfcoikbkmhggaaGreatLone
import Derived.Test.YtnfcoikbkmhggaaGreatMoreFacts
import Derived.ProofKit
set_option linter.all false
set_option linter.unusedVariables false
set_option linter.unusedSimpArgs false
namespace Go.Proofs.YtnfcoikbkmhggaaGreat
open Go.BL Go.ChangeShapes Go.WideShapes Go.ChangeAt Go.RowKit Go.Conc
set_option maxRecDepth 100000 in
theorem soloMore_lifted (os : Os) (started : os.Started) (H : Type) (enc : TypeId × Value → H) :
    ReturnsInLeavingWide {} Tryz.checked os 3 .any (Rows.soloMoreSpec.pre6 enc Tryz.prog Tryz.f3 Rows.soloMoreRow.domain false) (Rows.soloMoreSpec.post enc Tryz.prog Tryz.f3 false true false false) := by
  refine returnsInLeavingWide_of_change_sized (C := Tryz.checked) Tryz.own started Tryz.func3
    (ChangeSpec.witness6 (enc := enc) (C := Tryz.checked) false ⟨#[], #[.agg (cfv ⟨0, 0, 0, 0, 0, 0, [], []⟩ ⟨none, 0, none, 0⟩).toArray, .agg (cfv ⟨0, 0, 0, 0, 0, 0, [], []⟩ ⟨none, 0, none, 0⟩).toArray], []⟩ 8 (by kernel_rfl) (by kernel_rfl) (by kernel_rfl) (by kernel_rfl)) ?_
  intro W base args ds gs before hval0 hW _ _ _
  have hval : ∀ (j : Nat) t v, Tryz.f3.params[j]? = some t → args[j]? = some v → Value.okWide Tryz.prog W .any base t v := hval0
  have hW' := hW
  obtain ⟨p, q, hA0, hV, hb, hfz, _⟩ := hW
  have hA : DataW.TrodAll enc Tryz.prog W 0 (fun _ => true) true Tryz.f3.params.toList args.toList ds p := hA0
  obtain ⟨rfl, rfl⟩ := trodVars_none hV
  rw [Tryz.params3] at hA hval
  obtain ⟨v0, v1, d0, d1, p0, p1, rfl, rfl, hp, h0, h1⟩ := trodAll_two hA
  obtain ⟨c, A, rfl, R⟩ := read_conf (hval 0 24 v0 rfl rfl) h0
  obtain ⟨d, D, rfl, RD⟩ := read_conf (hval 1 24 v1 rfl rfl) h1
  obtain ⟨M, last, o, w', t', r1, r2, r3, r4⟩ := good_of_callS (f := 3) (memH_fits W) (by kernel_rfl) (l21_more (h := Hp.emp) R RD)
  refine ⟨M, last, o, w', t', r1, r2, r3, r4.mono fun v hF => ?_⟩
  obtain ⟨⟨_, rfl, _⟩, hbelow⟩ := hF
  have hlt : ∀ x ∈ p0 ++ p1, x.block < W.heap.size := fun x hx => by
    have := hW'.lt x
    rw [hb, hp] at this
    exact this (by simpa using hx)
  refine ⟨_, _, _, [], p0 ++ p1, [], hW', trodAll_mk1 (shut_bool Tryz.underlying4 _), ?_, rfl, hbelow.frame _, fun h => by cases h⟩
  exact trodAll_mk2 (Below.trod Tryz.laidOut (by kernel_rfl) (of_decide_eq_true (by kernel_rfl)) h0 hbelow fun x hx => hlt x (by simp [hx])) (Below.trod Tryz.laidOut (by kernel_rfl) (of_decide_eq_true (by kernel_rfl)) h1 hbelow fun x hx => hlt x (by simp [hx]))
theorem f3_name : Tryz.pinned.checked.prog.funcNamed Rows.soloMoreRow.func = some 3 := by kernel_rfl
theorem soloMore_holds : Rows.SoloMoreSaid :=
  OpenClaim.holds_of_wide_leaving 3 Tryz.f3 rfl rfl rfl rfl rfl rfl rfl ⟨rfl, rfl, rfl, rfl, rfl⟩ rfl rfl rfl rfl rfl f3_name Tryz.func3 f3_facts
    (of_decide_eq_true (by kernel_rfl)) (by unfold Func.isWrapper; first | (rw [if_pos (by decide +kernel)]; kernel_rfl) | (rw [if_neg (by decide +kernel)]; exact ⟨rfl, rfl⟩))
    (fun os started H enc _ => soloMore_lifted os started H enc)
#print axioms soloMore_holds
end Go.Proofs.YtnfcoikbkmhggaaGreat
