/- Package solo: contracts. -/
import Derived.Test.YtnfcoikbkmhggaaGreatSched3
set_option linter.all false
set_option linter.unusedVariables false
set_option linter.unusedSimpArgs false
namespace Go.Proofs
open Go.BL
variable {F h : Hp} {c : Cf} {A : CA} {L : List HProp}

theorem so_bound (o : c.Ok) (R : RdC F c A) : CallS Tryz.prog F 24 [.agg (cfv c A).toArray].toArray h fun v h' => v = .int .i64 c.bound := by
  refine callS_intro Tryz.func24 rfl rfl rfl fun C G => ?_
  have h1 := o.countB
  have h2 := o.tickets
  have h4 := o.stripes
  have h3 : 0 ≤ c.depth ∧ c.depth ≤ 13 := c.depth_le c.parents.length
  have H : Own [] h := trivial
  repeat refine ur_seq ?_
  refine ur_region rfl ?_
  refine ur_opw rfl rfl rfl rfl rfl (opv_box H rfl rfl fun b1 h hb1 H => ?_)
  refine ur_opw rfl rfl rfl rfl rfl (opv_assign rfl rfl ?_)
  refine ur_region_end ?_
  repeat refine ur_seq ?_
  refine ur_region rfl ?_
  refine ur_opw rfl rfl rfl rfl rfl (opv_fieldAddr0 rfl rfl rfl ?_)
  refine ur_opw rfl rfl rfl rfl rfl (opv_load1 (by first | exact .inl (Has.has H) | exact .inr (Has.has HR)) rfl rfl rfl ?_)
  refine ur_opw rfl rfl rfl rfl rfl (opv_fieldAddr0 rfl rfl rfl ?_)
  refine ur_opw rfl rfl rfl rfl rfl (opv_load1 (by first | exact .inl (Has.has H) | exact .inr (Has.has HR)) rfl rfl rfl ?_)
  refine ur_opw rfl rfl rfl rfl rfl (opv_arith rfl rfl rfl rfl (by first | exact wi (by omega) | rfl) ?_)
  refine ur_opw rfl rfl rfl rfl rfl (opv_arith rfl rfl rfl rfl (by first | exact wi (by omega) | rfl) ?_)
  refine ur_opw rfl rfl rfl rfl rfl (opv_arith rfl rfl rfl rfl (by first | exact wi (by omega) | rfl) ?_)
  refine ur_opw rfl rfl rfl rfl rfl (opv_assign rfl rfl ?_)
  refine ur_region_end ?_
  repeat refine ur_seq ?_
  refine ur_draw Tryz.mixed (by kernel_rfl) ?_
  refine ud_ro [0] [0, 1, 2, 3, 8, 4, 5, 6, 7] [0, 1, 2, 3, 8, 5, 6, 7] (by kernel_rfl) (by kernel_rfl) H fun F1 h hF1 HF H => ?_
  refine to_free rfl rfl rfl rfl rfl (fun _ _ hk => opv_fieldAddr0 rfl rfl rfl hk) ?_
  refine to_free rfl rfl rfl rfl rfl (fun _ _ hk => opv_load1 (by first | exact .inr (Has.has HF) | exact .inr (Has.has HR1) | exact .inr (Has.has (HR.mono hF1))) rfl rfl rfl hk) ?_
  refine to_free rfl rfl rfl rfl rfl (fun _ _ hk => opv_arith rfl rfl rfl rfl (by first | exact wi (by omega) | rfl) hk) ?_
  refine to_free rfl rfl rfl rfl rfl (fun _ _ hk => opv_loadA (by first | exact .inr (Has.has HF) | exact .inr (Has.has HR1) | exact .inr (Has.has (HR.mono hF1))) rfl rfl hk) ?_
  refine to_free rfl rfl rfl rfl rfl (fun _ _ hk => opv_move rfl rfl hk) ?_
  refine to_eff rfl rfl rfl rfl rfl (opv_call rfl rfl rfl (opv_to [] [] H (fun F2 h1 hF2 HR1 H1 => have hF := Hp.le_trans hF1 hF2; tree_depth o (R.mono hF)) ?_))
  rintro v h1 h ⟨rfl⟩ J
  have H := J (LN := []) trivial
  refine to_free rfl rfl rfl rfl rfl (fun _ _ hk => opv_arith rfl rfl rfl rfl (by first | exact wi (by omega) | rfl) hk) ?_
  refine to_free rfl rfl rfl rfl rfl (fun _ _ hk => opv_arith rfl rfl rfl rfl (by first | exact wi (by omega) | rfl) hk) ?_
  refine to_free rfl rfl rfl rfl rfl (fun _ _ hk => opv_arith rfl rfl rfl rfl (by first | exact wi (by omega) | rfl) hk) ?_
  refine to_end fun h J => ?_
  have H := J H
  refine ud_op 9 (by kernel_rfl) (by kernel_rfl) rfl rfl rfl rfl (opv_arith rfl rfl rfl rfl (by first | exact wi (by omega) | rfl) ?_)
  refine ud_op 10 (by kernel_rfl) (by kernel_rfl) rfl rfl rfl rfl (opv_assign rfl rfl ?_)
  refine ud_end (by kernel_rfl) ?_
  exact ur_ret1 G Tryz.func24 rfl rfl rfl

theorem so_window (o : c.Ok) (R : RdC F c A) : CallS Tryz.prog F 25 [.agg (cfv c A).toArray].toArray h fun v h' => v = .int .i64 c.window := by
  refine callS_intro Tryz.func25 rfl rfl rfl fun C G => ?_
  have h1 := o.sqT
  have h2 := o.threads
  have h3 := o.window
  unfold Cf.window at h3
  have H : Own [] h := trivial
  repeat refine ur_seq ?_
  refine ur_region rfl ?_
  refine ur_opw rfl rfl rfl rfl rfl (opv_box H rfl rfl fun b1 h hb1 H => ?_)
  refine ur_opw rfl rfl rfl rfl rfl (opv_assign rfl rfl ?_)
  refine ur_region_end ?_
  repeat refine ur_seq ?_
  refine ur_draw Tryz.mixed (by kernel_rfl) ?_
  refine ud_ro [0] [0, 1, 2, 3, 4, 5, 6, 7] [0, 1, 2, 3, 4, 5, 6] (by kernel_rfl) (by kernel_rfl) H fun F1 h hF1 HF H => ?_
  refine to_free rfl rfl rfl rfl rfl (fun _ _ hk => opv_fieldAddr0 rfl rfl rfl hk) ?_
  refine to_free rfl rfl rfl rfl rfl (fun _ _ hk => opv_load1 (by first | exact .inr (Has.has HF) | exact .inr (Has.has HR1) | exact .inr (Has.has (HR.mono hF1))) rfl rfl rfl hk) ?_
  refine to_free rfl rfl rfl rfl rfl (fun _ _ hk => opv_arith rfl rfl rfl rfl (by first | exact wi (by omega) | rfl) hk) ?_
  refine to_free rfl rfl rfl rfl rfl (fun _ _ hk => opv_fieldAddr0 rfl rfl rfl hk) ?_
  refine to_free rfl rfl rfl rfl rfl (fun _ _ hk => opv_load1 (by first | exact .inr (Has.has HF) | exact .inr (Has.has HR1) | exact .inr (Has.has (HR.mono hF1))) rfl rfl rfl hk) ?_
  refine to_free rfl rfl rfl rfl rfl (fun _ _ hk => opv_arith rfl rfl rfl rfl (by first | exact wi (by omega) | rfl) hk) ?_
  refine to_free rfl rfl rfl rfl rfl (fun _ _ hk => opv_loadA (by first | exact .inr (Has.has HF) | exact .inr (Has.has HR1) | exact .inr (Has.has (HR.mono hF1))) rfl rfl hk) ?_
  refine to_eff rfl rfl rfl rfl rfl (opv_call rfl rfl rfl (opv_to [] [] H (fun F2 h1 hF2 HR1 H1 => have hF := Hp.le_trans hF1 hF2; so_bound o (R.mono hF)) ?_))
  rintro v h1 h ⟨rfl⟩ J
  have H := J (LN := []) trivial
  refine to_end fun h J => ?_
  have H := J H
  refine ud_op 8 (by kernel_rfl) (by kernel_rfl) rfl rfl rfl rfl (opv_arith rfl rfl rfl rfl (by first | exact wi (by omega) | rfl) ?_)
  refine ud_op 9 (by kernel_rfl) (by kernel_rfl) rfl rfl rfl rfl (opv_assign rfl rfl ?_)
  refine ud_end (by kernel_rfl) ?_
  exact ur_ret1 G Tryz.func25 rfl rfl rfl

theorem so_new (o : c.Ok) (R : RdC F c A) : CallS Tryz.prog F 29 [.agg (cfv c A).toArray].toArray h fun v h' => ∃ b, v = .pointer (some ⟨b, 0, none⟩) ∧ Own [pt b (.cells [Value.int .i64 (10 * c.bound)].toArray 88 (0, 0))] h' := by
  refine callS_intro Tryz.func29 rfl rfl rfl fun C G => ?_
  have h1 := o.bound
  have H : Own [] h := trivial
  repeat refine ur_seq ?_
  refine ur_region rfl ?_
  refine ur_opw rfl rfl rfl rfl rfl (opv_box H rfl rfl fun b1 h hb1 H => ?_)
  refine ur_opw rfl rfl rfl rfl rfl (opv_assign rfl rfl ?_)
  refine ur_region_end ?_
  repeat refine ur_seq ?_
  refine ur_region rfl ?_
  refine ur_opw rfl rfl rfl rfl rfl (opv_loadA (by first | exact .inl (Has.has H) | exact .inr (Has.has HR)) rfl rfl ?_)
  refine ur_opw rfl rfl rfl rfl rfl (opv_call rfl rfl rfl (opv_to [] [] H (fun F1 h1 hF HR1 H1 => so_bound o (R.mono hF)) ?_))
  rintro v h1 h ⟨rfl⟩ J
  have H := J (LN := []) trivial
  refine ur_opw rfl rfl rfl rfl rfl (opv_arith rfl rfl rfl rfl (by first | exact wi (by omega) | rfl) ?_)
  refine ur_opw rfl rfl rfl rfl rfl (opv_build rfl rfl ?_)
  refine ur_opw rfl rfl rfl rfl rfl (opv_box H rfl rfl fun b2 h hb2 H => ?_)
  refine ur_opw rfl rfl rfl rfl rfl (opv_assign rfl rfl ?_)
  refine ur_region_end ?_
  exact ur_ret1 G Tryz.func29 rfl rfl ⟨_, rfl, H.keep [0]⟩
end Go.Proofs
