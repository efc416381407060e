/- Package call: contracts. -/
import Derived.Test.YtnfcoikbkmhggaaGreatTree
import Derived.Test.YtnfcoikbkmhggaaGreatSlot
import Derived.Test.YtnfcoikbkmhggaaGreatPeek
import Derived.Test.YtnfcoikbkmhggaaGreatMaps
import Derived.Test.YtnfcoikbkmhggaaGreatMu
set_option linter.all false
set_option linter.unusedVariables false
set_option linter.unusedSimpArgs false
namespace Go.Proofs
open Go.BL
variable {F h : Hp} {c : Cf} {A : CA}

theorem ck_node {x : Cl} : CallS Tryz.prog F 208 [.agg (cfv c A).toArray, .agg (clv x).toArray].toArray h fun v h' => v = .int .i64 (c.ckNode x) := by
  refine callS_intro Tryz.func208 rfl rfl rfl fun C G => ?_
  have H : Own [] h := trivial
  repeat refine ur_seq ?_
  refine ur_region rfl ?_
  refine ur_opw rfl rfl rfl rfl rfl (opv_box H rfl rfl fun b1 h hb1 H => ?_)
  refine ur_opw rfl rfl rfl rfl rfl (opv_box H rfl rfl fun b2 h hb2 H => ?_)
  refine ur_opw rfl rfl rfl rfl rfl (opv_assign rfl rfl ?_)
  refine ur_region_end ?_
  repeat refine ur_seq ?_
  refine ur_region rfl ?_
  refine ur_opw rfl rfl rfl rfl rfl (opv_fieldAddr0 rfl rfl rfl ?_)
  refine ur_opw rfl rfl rfl rfl rfl (opv_load1 (by first | exact .inl (Has.has H) | exact .inr (Has.has HR)) rfl rfl rfl ?_)
  refine ur_opw rfl rfl rfl rfl rfl (opv_cmp rfl rfl rfl rfl ?_)
  refine ur_opw rfl rfl rfl rfl rfl (opv_move rfl rfl ?_)
  refine ur_split 8 rfl (fun hc3 => ?_) (fun hc3 => ?_)
  · -- yes
    try simp only [decide_eq_true_eq, decide_eq_false_iff_not, Bool.not_eq_true', Bool.not_eq_false', beq_iff_eq, bne_iff_ne, beq_eq_false_iff_ne, bne_eq_false_iff_eq, ne_eq, Decidable.not_not] at hc3
    refine ur_pass rfl rfl rfl rfl ?_
    refine ur_pass rfl rfl rfl rfl ?_
    refine ur_pass rfl rfl rfl rfl ?_
    refine ur_pass rfl rfl rfl rfl ?_
    refine ur_pass rfl rfl rfl rfl ?_
    refine ur_pass rfl rfl rfl rfl ?_
    refine ur_opw rfl rfl rfl rfl rfl (opv_pick rfl rfl rfl ?_)
    refine ur_region_end ?_
    repeat refine ur_seq ?_
    refine ur_condT rfl ?_
    repeat refine ur_seq ?_
    refine ur_region rfl ?_
    refine ur_opw rfl rfl rfl rfl rfl (opv_assign rfl rfl ?_)
    refine ur_region_end ?_
    exact ur_ret1 G Tryz.func208 rfl rfl (by simp only [Cf.ckNode]; split <;> first | rfl | (exfalso; omega))
  · -- no
    try simp only [decide_eq_true_eq, decide_eq_false_iff_not, Bool.not_eq_true', Bool.not_eq_false', beq_iff_eq, bne_iff_ne, beq_eq_false_iff_ne, bne_eq_false_iff_eq, ne_eq, Decidable.not_not] at hc3
    refine ur_opw rfl rfl rfl rfl rfl (opv_fieldAddr0 rfl rfl rfl ?_)
    refine ur_opw rfl rfl rfl rfl rfl (opv_load1 (by first | exact .inl (Has.has H) | exact .inr (Has.has HR)) rfl rfl rfl ?_)
    refine ur_opw rfl rfl rfl rfl rfl (opv_fieldAddr0 rfl rfl rfl ?_)
    refine ur_opw rfl rfl rfl rfl rfl (opv_load1 (by first | exact .inl (Has.has H) | exact .inr (Has.has HR)) rfl rfl rfl ?_)
    refine ur_opw rfl rfl rfl rfl rfl (opv_len rfl rfl ?_)
    refine ur_opw rfl rfl rfl rfl rfl (opv_cmp rfl rfl rfl rfl ?_)
    refine ur_opw rfl rfl rfl rfl rfl (opv_pick rfl rfl rfl ?_)
    refine ur_region_end ?_
    repeat refine ur_seq ?_
    refine ur_cond rfl (fun hc4 => ?_) (fun hc4 => ?_)
    · -- yes
      try simp only [decide_eq_true_eq, decide_eq_false_iff_not, Bool.not_eq_true', Bool.not_eq_false', beq_iff_eq, bne_iff_ne, beq_eq_false_iff_ne, bne_eq_false_iff_eq, ne_eq, Decidable.not_not] at hc4
      repeat refine ur_seq ?_
      refine ur_region rfl ?_
      refine ur_opw rfl rfl rfl rfl rfl (opv_assign rfl rfl ?_)
      refine ur_region_end ?_
      exact ur_ret1 G Tryz.func208 rfl rfl (by simp only [Cf.ckNode]; split <;> first | rfl | (exfalso; omega))
    · -- no
      try simp only [decide_eq_true_eq, decide_eq_false_iff_not, Bool.not_eq_true', Bool.not_eq_false', beq_iff_eq, bne_iff_ne, beq_eq_false_iff_ne, bne_eq_false_iff_eq, ne_eq, Decidable.not_not] at hc4
      refine ur_skip ?_
      repeat refine ur_seq ?_
      refine ur_region rfl ?_
      refine ur_opw rfl rfl rfl rfl rfl (opv_assign rfl rfl ?_)
      refine ur_region_end ?_
      exact ur_ret1 G Tryz.func208 rfl rfl (by simp only [Cf.ckNode]; split <;> first | rfl | (exfalso; omega))

theorem ck_amount {e : Int} {x : Cl} : CallS Tryz.prog F 237 [.int .i64 e, .agg (clv x).toArray].toArray h fun v h' => v = .int .i64 (ckAmount e x) := by
  refine callS_intro Tryz.func237 rfl rfl rfl fun C G => ?_
  have H : Own [] h := trivial
  repeat refine ur_seq ?_
  refine ur_region rfl ?_
  refine ur_opw rfl rfl rfl rfl rfl (opv_box H rfl rfl fun b1 h hb1 H => ?_)
  refine ur_opw rfl rfl rfl rfl rfl (opv_assign rfl rfl ?_)
  refine ur_region_end ?_
  repeat refine ur_seq ?_
  refine ur_region rfl ?_
  refine ur_opw rfl rfl rfl rfl rfl (opv_move rfl rfl ?_)
  refine ur_opw rfl rfl rfl rfl rfl (opv_cmp rfl rfl rfl rfl ?_)
  refine ur_opw rfl rfl rfl rfl rfl (opv_move rfl rfl ?_)
  refine ur_split 7 rfl (fun hc2 => ?_) (fun hc2 => ?_)
  · -- yes
    try simp only [decide_eq_true_eq, decide_eq_false_iff_not, Bool.not_eq_true', Bool.not_eq_false', beq_iff_eq, bne_iff_ne, beq_eq_false_iff_ne, bne_eq_false_iff_eq, ne_eq, Decidable.not_not] at hc2
    refine ur_opw rfl rfl rfl rfl rfl (opv_fieldAddr0 rfl rfl rfl ?_)
    refine ur_opw rfl rfl rfl rfl rfl (opv_load1 (by first | exact .inl (Has.has H) | exact .inr (Has.has HR)) rfl rfl rfl ?_)
    refine ur_opw rfl rfl rfl rfl rfl (opv_cmp rfl rfl rfl rfl ?_)
    refine ur_opw rfl rfl rfl rfl rfl (opv_move rfl rfl ?_)
    refine ur_split 11 rfl (fun hc3 => ?_) (fun hc3 => ?_)
    · -- yes
      try simp only [decide_eq_true_eq, decide_eq_false_iff_not, Bool.not_eq_true', Bool.not_eq_false', beq_iff_eq, bne_iff_ne, beq_eq_false_iff_ne, bne_eq_false_iff_eq, ne_eq, Decidable.not_not] at hc3
      refine ur_pass rfl rfl rfl rfl ?_
      refine ur_pass rfl rfl rfl rfl ?_
      refine ur_pass rfl rfl rfl rfl ?_
      refine ur_opw rfl rfl rfl rfl rfl (opv_pick rfl rfl rfl ?_)
      refine ur_opw rfl rfl rfl rfl rfl (opv_pick rfl rfl rfl ?_)
      refine ur_region_end ?_
      repeat refine ur_seq ?_
      refine ur_condT rfl ?_
      repeat refine ur_seq ?_
      refine ur_region rfl ?_
      refine ur_opw rfl rfl rfl rfl rfl (opv_assign rfl rfl ?_)
      refine ur_region_end ?_
      exact ur_ret1 G Tryz.func237 rfl rfl (by simp only [ckAmount]; split <;> first | rfl | (exfalso; omega))
    · -- no
      try simp only [decide_eq_true_eq, decide_eq_false_iff_not, Bool.not_eq_true', Bool.not_eq_false', beq_iff_eq, bne_iff_ne, beq_eq_false_iff_ne, bne_eq_false_iff_eq, ne_eq, Decidable.not_not] at hc3
      refine ur_opw rfl rfl rfl rfl rfl (opv_fieldAddr0 rfl rfl rfl ?_)
      refine ur_opw rfl rfl rfl rfl rfl (opv_load1 (by first | exact .inl (Has.has H) | exact .inr (Has.has HR)) rfl rfl rfl ?_)
      refine ur_opw rfl rfl rfl rfl rfl (opv_cmp rfl rfl rfl rfl ?_)
      refine ur_opw rfl rfl rfl rfl rfl (opv_pick rfl rfl rfl ?_)
      refine ur_opw rfl rfl rfl rfl rfl (opv_pick rfl rfl rfl ?_)
      refine ur_region_end ?_
      repeat refine ur_seq ?_
      refine ur_cond rfl (fun hc4 => ?_) (fun hc4 => ?_)
      · -- yes
        try simp only [decide_eq_true_eq, decide_eq_false_iff_not, Bool.not_eq_true', Bool.not_eq_false', beq_iff_eq, bne_iff_ne, beq_eq_false_iff_ne, bne_eq_false_iff_eq, ne_eq, Decidable.not_not] at hc4
        repeat refine ur_seq ?_
        refine ur_region rfl ?_
        refine ur_opw rfl rfl rfl rfl rfl (opv_assign rfl rfl ?_)
        refine ur_region_end ?_
        exact ur_ret1 G Tryz.func237 rfl rfl (by simp only [ckAmount]; split <;> first | rfl | (exfalso; omega))
      · -- no
        try simp only [decide_eq_true_eq, decide_eq_false_iff_not, Bool.not_eq_true', Bool.not_eq_false', beq_iff_eq, bne_iff_ne, beq_eq_false_iff_ne, bne_eq_false_iff_eq, ne_eq, Decidable.not_not] at hc4
        refine ur_skip ?_
        repeat refine ur_seq ?_
        refine ur_region rfl ?_
        refine ur_opw rfl rfl rfl rfl rfl (opv_move rfl rfl ?_)
        refine ur_opw rfl rfl rfl rfl rfl (opv_assign rfl rfl ?_)
        refine ur_region_end ?_
        exact ur_ret1 G Tryz.func237 rfl rfl (by simp only [ckAmount]; split <;> first | rfl | (exfalso; omega))
  · -- no
    try simp only [decide_eq_true_eq, decide_eq_false_iff_not, Bool.not_eq_true', Bool.not_eq_false', beq_iff_eq, bne_iff_ne, beq_eq_false_iff_ne, bne_eq_false_iff_eq, ne_eq, Decidable.not_not] at hc2
    refine ur_pass rfl rfl rfl rfl ?_
    refine ur_pass rfl rfl rfl rfl ?_
    refine ur_pass rfl rfl rfl rfl ?_
    refine ur_pass rfl rfl rfl rfl ?_
    refine ur_pass rfl rfl rfl rfl ?_
    refine ur_pass rfl rfl rfl rfl ?_
    refine ur_pass rfl rfl rfl rfl ?_
    refine ur_pass rfl rfl rfl rfl ?_
    refine ur_opw rfl rfl rfl rfl rfl (opv_pick rfl rfl rfl ?_)
    refine ur_region_end ?_
    repeat refine ur_seq ?_
    refine ur_condF rfl ?_
    refine ur_skip ?_
    repeat refine ur_seq ?_
    refine ur_region rfl ?_
    refine ur_opw rfl rfl rfl rfl rfl (opv_move rfl rfl ?_)
    refine ur_opw rfl rfl rfl rfl rfl (opv_assign rfl rfl ?_)
    refine ur_region_end ?_
    exact ur_ret1 G Tryz.func237 rfl rfl (by simp only [ckAmount]; split <;> first | rfl | (exfalso; omega))

theorem ck_moved {x : Cl} : CallS Tryz.prog F 203 [.agg (cfv c A).toArray, .agg (clv x).toArray].toArray h fun v h' => v = .int .i64 (c.ckMoved x) := by
  refine callS_intro Tryz.func203 rfl rfl rfl fun C G => ?_
  have H : Own [] h := trivial
  repeat refine ur_seq ?_
  refine ur_region rfl ?_
  refine ur_opw rfl rfl rfl rfl rfl (opv_box H rfl rfl fun b1 h hb1 H => ?_)
  refine ur_opw rfl rfl rfl rfl rfl (opv_box H rfl rfl fun b2 h hb2 H => ?_)
  refine ur_opw rfl rfl rfl rfl rfl (opv_assign rfl rfl ?_)
  refine ur_region_end ?_
  repeat refine ur_seq ?_
  refine ur_draw Tryz.mixed (by kernel_rfl) ?_
  refine ud_ro [0, 0] [0, 1, 3, 2] [0, 1, 3] (by kernel_rfl) (by kernel_rfl) H fun F1 h hF1 HF H => ?_
  refine to_free rfl rfl rfl rfl rfl (fun _ _ hk => opv_loadA (by first | exact .inr (Has.has HF) | exact .inr (Has.has HR1) | exact .inr (Has.has (HR.mono hF1))) rfl rfl hk) ?_
  refine to_free rfl rfl rfl rfl rfl (fun _ _ hk => opv_loadA (by first | exact .inr (Has.has HF) | exact .inr (Has.has HR1) | exact .inr (Has.has (HR.mono hF1))) rfl rfl hk) ?_
  refine to_free rfl rfl rfl rfl rfl (fun _ _ hk => opv_loadA (by first | exact .inr (Has.has HF) | exact .inr (Has.has HR1) | exact .inr (Has.has (HR.mono hF1))) rfl rfl hk) ?_
  refine to_eff rfl rfl rfl rfl rfl (opv_call rfl rfl rfl (opv_to [] [] H (fun F2 h1 hF2 HR1 H1 => have hF := Hp.le_trans hF1 hF2; ck_node) ?_))
  rintro v h1 h ⟨rfl⟩ J
  have H := J (LN := []) trivial
  refine to_end fun h J => ?_
  have H := J H
  refine ud_op 4 (by kernel_rfl) (by kernel_rfl) rfl rfl rfl rfl (opv_call rfl rfl rfl (opv_to [] [] H (fun F1 h1 hF HR1 H1 => ck_amount) ?_))
  rintro v h1 h ⟨rfl⟩ J
  have H := J (LN := []) trivial
  refine ud_op 5 (by kernel_rfl) (by kernel_rfl) rfl rfl rfl rfl (opv_assign rfl rfl ?_)
  refine ud_end (by kernel_rfl) ?_
  exact ur_ret1 G Tryz.func203 rfl rfl rfl

theorem ck_leaf (o : c.Ok) (R : RdC F c A) {x : Cl} : CallS Tryz.prog F 197 [.agg (cfv c A).toArray, .agg (clv x).toArray].toArray h fun v h' => v = .int .i64 (c.ckLeaf x) := by
  refine callS_intro Tryz.func197 rfl rfl rfl fun C G => ?_
  have H : Own [] h := trivial
  repeat refine ur_seq ?_
  refine ur_region rfl ?_
  refine ur_opw rfl rfl rfl rfl rfl (opv_box H rfl rfl fun b1 h hb1 H => ?_)
  refine ur_opw rfl rfl rfl rfl rfl (opv_box H rfl rfl fun b2 h hb2 H => ?_)
  refine ur_opw rfl rfl rfl rfl rfl (opv_assign rfl rfl ?_)
  refine ur_region_end ?_
  repeat refine ur_seq ?_
  refine ur_region rfl ?_
  refine ur_opw rfl rfl rfl rfl rfl (opv_assign rfl rfl ?_)
  refine ur_region_end ?_
  repeat refine ur_seq ?_
  refine ur_region rfl ?_
  refine ur_opw rfl rfl rfl rfl rfl (opv_loadA (by first | exact .inl (Has.has H) | exact .inr (Has.has HR)) rfl rfl ?_)
  refine ur_opw rfl rfl rfl rfl rfl (opv_fieldAddr0 rfl rfl rfl ?_)
  refine ur_opw rfl rfl rfl rfl rfl (opv_load1 (by first | exact .inl (Has.has H) | exact .inr (Has.has HR)) rfl rfl rfl ?_)
  refine ur_opw rfl rfl rfl rfl rfl (opv_call rfl rfl rfl (opv_to [] [] H (fun F1 h1 hF HR1 H1 => tree_leaf o (R.mono hF)) ?_))
  rintro v h1 h ⟨rfl⟩ J
  have H := J (LN := []) trivial
  refine ur_opw rfl rfl rfl rfl rfl (opv_not rfl rfl ?_)
  refine ur_region_end ?_
  repeat refine ur_seq ?_
  refine ur_cond rfl (fun hc3 => ?_) (fun hc3 => ?_)
  · -- yes
    try simp only [decide_eq_true_eq, decide_eq_false_iff_not, Bool.not_eq_true', Bool.not_eq_false', beq_iff_eq, bne_iff_ne, beq_eq_false_iff_ne, bne_eq_false_iff_eq, ne_eq, Decidable.not_not] at hc3
    refine ur_region rfl ?_
    refine ur_opw rfl rfl rfl rfl rfl (opv_assign rfl rfl ?_)
    refine ur_region_end ?_
    repeat refine ur_seq ?_
    refine ur_region rfl ?_
    refine ur_opw rfl rfl rfl rfl rfl (opv_move rfl rfl ?_)
    refine ur_opw rfl rfl rfl rfl rfl (opv_loadA (by first | exact .inl (Has.has H) | exact .inr (Has.has HR)) rfl rfl ?_)
    refine ur_opw rfl rfl rfl rfl rfl (opv_call rfl rfl rfl (opv_to [] [] H (fun F1 h1 hF HR1 H1 => ck_amount) ?_))
    rintro v h1 h ⟨rfl⟩ J
    have H := J (LN := []) trivial
    refine ur_opw rfl rfl rfl rfl rfl (opv_assign rfl rfl ?_)
    refine ur_region_end ?_
    exact ur_ret1 G Tryz.func197 rfl rfl (by simp only [Cf.ckLeaf, hc3]; rfl)
  · -- no
    try simp only [decide_eq_true_eq, decide_eq_false_iff_not, Bool.not_eq_true', Bool.not_eq_false', beq_iff_eq, bne_iff_ne, beq_eq_false_iff_ne, bne_eq_false_iff_eq, ne_eq, Decidable.not_not] at hc3
    refine ur_skip ?_
    repeat refine ur_seq ?_
    refine ur_region rfl ?_
    refine ur_opw rfl rfl rfl rfl rfl (opv_move rfl rfl ?_)
    refine ur_opw rfl rfl rfl rfl rfl (opv_loadA (by first | exact .inl (Has.has H) | exact .inr (Has.has HR)) rfl rfl ?_)
    refine ur_opw rfl rfl rfl rfl rfl (opv_call rfl rfl rfl (opv_to [] [] H (fun F1 h1 hF HR1 H1 => ck_amount) ?_))
    rintro v h1 h ⟨rfl⟩ J
    have H := J (LN := []) trivial
    refine ur_opw rfl rfl rfl rfl rfl (opv_assign rfl rfl ?_)
    refine ur_region_end ?_
    exact ur_ret1 G Tryz.func197 rfl rfl (by simp only [Cf.ckLeaf, hc3]; rfl)

theorem ck_named {x : Cl} : CallS Tryz.prog F 200 [.agg (cfv c A).toArray, .agg (clv x).toArray].toArray h fun v h' => v = .int .i64 (c.ckNamed x) := by
  refine callS_intro Tryz.func200 rfl rfl rfl fun C G => ?_
  have H : Own [] h := trivial
  repeat refine ur_seq ?_
  refine ur_region rfl ?_
  refine ur_opw rfl rfl rfl rfl rfl (opv_box H rfl rfl fun b1 h hb1 H => ?_)
  refine ur_opw rfl rfl rfl rfl rfl (opv_box H rfl rfl fun b2 h hb2 H => ?_)
  refine ur_opw rfl rfl rfl rfl rfl (opv_assign rfl rfl ?_)
  refine ur_region_end ?_
  repeat refine ur_seq ?_
  refine ur_region rfl ?_
  refine ur_opw rfl rfl rfl rfl rfl (opv_fieldAddr0 rfl rfl rfl ?_)
  refine ur_opw rfl rfl rfl rfl rfl (opv_load1 (by first | exact .inl (Has.has H) | exact .inr (Has.has HR)) rfl rfl rfl ?_)
  refine ur_opw rfl rfl rfl rfl rfl (opv_fieldAddr0 rfl rfl rfl ?_)
  refine ur_opw rfl rfl rfl rfl rfl (opv_load1 (by first | exact .inl (Has.has H) | exact .inr (Has.has HR)) rfl rfl rfl ?_)
  refine ur_opw rfl rfl rfl rfl rfl (opv_call rfl rfl rfl (opv_to [] [] H (fun F1 h1 hF HR1 H1 => sl_named) ?_))
  rintro v h1 h ⟨rfl, H1⟩ J
  have H := J H1
  refine ur_opw rfl rfl rfl rfl rfl (opv_move rfl rfl ?_)
  refine ur_opw rfl rfl rfl rfl rfl (opv_extract rfl rfl rfl ?_)
  refine ur_opw rfl rfl rfl rfl rfl (opv_extract rfl rfl rfl ?_)
  refine ur_opw rfl rfl rfl rfl rfl (opv_extract rfl rfl rfl ?_)
  refine ur_opw rfl rfl rfl rfl rfl (opv_assign rfl rfl ?_)
  refine ur_opw rfl rfl rfl rfl rfl (opv_assign rfl rfl ?_)
  refine ur_opw rfl rfl rfl rfl rfl (opv_assign rfl rfl ?_)
  refine ur_region_end ?_
  repeat refine ur_seq ?_
  refine ur_region rfl ?_
  refine ur_opw rfl rfl rfl rfl rfl (opv_move rfl rfl ?_)
  refine ur_opw rfl rfl rfl rfl rfl (opv_not rfl rfl ?_)
  refine ur_region_end ?_
  repeat refine ur_seq ?_
  refine ur_cond rfl (fun hc3 => ?_) (fun hc3 => ?_)
  · -- yes
    try simp only [decide_eq_true_eq, decide_eq_false_iff_not, Bool.not_eq_true', Bool.not_eq_false', beq_iff_eq, bne_iff_ne, beq_eq_false_iff_ne, bne_eq_false_iff_eq, ne_eq, Decidable.not_not] at hc3
    repeat refine ur_seq ?_
    refine ur_region rfl ?_
    refine ur_opw rfl rfl rfl rfl rfl (opv_assign rfl rfl ?_)
    refine ur_region_end ?_
    exact ur_ret1 G Tryz.func200 rfl rfl (by simp only [Cf.ckNamed, hc3]; rfl)
  · -- no
    try simp only [decide_eq_true_eq, decide_eq_false_iff_not, Bool.not_eq_true', Bool.not_eq_false', beq_iff_eq, bne_iff_ne, beq_eq_false_iff_ne, bne_eq_false_iff_eq, ne_eq, Decidable.not_not] at hc3
    refine ur_skip ?_
    repeat refine ur_seq ?_
    refine ur_region rfl ?_
    refine ur_opw rfl rfl rfl rfl rfl (opv_assign rfl rfl ?_)
    refine ur_region_end ?_
    exact ur_ret1 G Tryz.func200 rfl rfl (by simp only [Cf.ckNamed, hc3]; rfl)

abbrev kE (i : Int) (f g b : Nat) : MapEntry := ⟨.int .i64 i, .agg [Value.func (.func f) #[] #[], Value.func (.func g) #[] #[]].toArray, b⟩
abbrev kindsE : List MapEntry := [kE 1 197 198 0, kE 2 200 201 1, kE 3 203 204 2, kE 4 203 206 3, kE 5 208 209 4, kE 6 208 211 5]

theorem ck_kinds  : CallS Tryz.prog F 149 [].toArray h fun v h' => ∃ b, v = .map (some b) ∧ Own [pt b (mapO kindsE 6)] h' := by
  refine callS_intro Tryz.func149 rfl rfl rfl fun C G => ?_
  have H : Own [] h := trivial
  repeat refine ur_seq ?_
  refine ur_region rfl ?_
  refine ur_opw rfl rfl rfl rfl rfl (opv_assign rfl rfl ?_)
  refine ur_region_end ?_
  repeat refine ur_seq ?_
  refine ur_region rfl ?_
  refine ur_opw rfl rfl rfl rfl rfl (opv_makeMap H rfl fun b1 h hb1 H => ?_)
  refine ur_opw rfl rfl rfl rfl rfl (opv_build rfl rfl ?_)
  refine ur_opw0 rfl rfl rfl rfl (opv_insert H (.inl rfl) rfl rfl rfl rfl fun h H => ?_)
  refine ur_opw rfl rfl rfl rfl rfl (opv_build rfl rfl ?_)
  refine ur_opw0 rfl rfl rfl rfl (opv_insert H (.inl rfl) rfl rfl rfl rfl fun h H => ?_)
  refine ur_opw rfl rfl rfl rfl rfl (opv_build rfl rfl ?_)
  refine ur_opw0 rfl rfl rfl rfl (opv_insert H (.inl rfl) rfl rfl rfl rfl fun h H => ?_)
  refine ur_opw rfl rfl rfl rfl rfl (opv_build rfl rfl ?_)
  refine ur_opw0 rfl rfl rfl rfl (opv_insert H (.inl rfl) rfl rfl rfl rfl fun h H => ?_)
  refine ur_opw rfl rfl rfl rfl rfl (opv_build rfl rfl ?_)
  refine ur_opw0 rfl rfl rfl rfl (opv_insert H (.inl rfl) rfl rfl rfl rfl fun h H => ?_)
  refine ur_opw rfl rfl rfl rfl rfl (opv_build rfl rfl ?_)
  refine ur_opw0 rfl rfl rfl rfl (opv_insert H (.inl rfl) rfl rfl rfl rfl fun h H => ?_)
  refine ur_opw rfl rfl rfl rfl rfl (opv_move rfl rfl ?_)
  refine ur_opw rfl rfl rfl rfl rfl (opv_assign rfl rfl ?_)
  refine ur_region_end ?_
  exact ur_ret1 G Tryz.func149 rfl rfl ⟨_, rfl, H⟩

theorem ck_check0 {x : Cl} {f g i : Nat} {r : Int} (hf : Instr.findNow (.int .i64) (.int .i64 x.kind) kindsE 0 = some (some (i, .agg [Value.func (.func f) #[] #[], Value.func (.func g) #[] #[]].toArray))) (hb : HasBody Tryz.prog f) (hs : ∀ F' h', Hp.le F F' → CallS Tryz.prog F' f (([] ++ [Value.agg (cfv c A).toArray, Value.agg (clv x).toArray]) ++ []).toArray h' fun v _ => v = .int .i64 r) : CallS Tryz.prog F 105 [.agg (cfv c A).toArray, .agg (clv x).toArray].toArray h fun v h' => v = .int .i64 r := by
  refine callS_intro Tryz.func105 rfl rfl rfl fun C G => ?_
  have H : Own [] h := trivial
  repeat refine ur_seq ?_
  refine ur_region rfl ?_
  refine ur_opw rfl rfl rfl rfl rfl (opv_box H rfl rfl fun b1 h hb1 H => ?_)
  refine ur_opw rfl rfl rfl rfl rfl (opv_box H rfl rfl fun b2 h hb2 H => ?_)
  refine ur_opw rfl rfl rfl rfl rfl (opv_assign rfl rfl ?_)
  refine ur_region_end ?_
  repeat refine ur_seq ?_
  refine ur_draw Tryz.mixed (by kernel_rfl) ?_
  refine ud_order 7 0 rfl (ud_order 7 3 rfl ?_ ?_) ?_
  · -- an order
    refine ud_ro [0, 0] [1, 2, 0] [1, 2] (by kernel_rfl) (by kernel_rfl) H fun F1 h hF1 HF H => ?_
    refine to_free rfl rfl rfl rfl rfl (fun _ _ hk => opv_fieldAddr0 rfl rfl rfl hk) ?_
    refine to_free rfl rfl rfl rfl rfl (fun _ _ hk => opv_load1 (by first | exact .inr (Has.has HF) | exact .inr (Has.has HR1) | exact .inr (Has.has (HR.mono hF1))) rfl rfl rfl hk) ?_
    refine to_eff rfl rfl rfl rfl rfl (opv_call rfl rfl rfl (opv_to [] [] H (fun F2 h1 hF2 HR1 H1 => have hF := Hp.le_trans hF1 hF2; ck_kinds) ?_))
    rintro v h1 h ⟨mb, rfl, H1⟩ J
    have H := J H1
    refine to_end fun h J => ?_
    have H := J H
    refine ud_op 3 (by kernel_rfl) (by kernel_rfl) rfl rfl rfl rfl (opv_lookup (.inl (Has.has H)) rfl rfl rfl hf ?_)
    refine ud_ro [] [4, 5, 6, 7, 8] [4, 5, 6] (by kernel_rfl) (by kernel_rfl) H fun F1 h hF1 HF H => ?_
    refine to_free rfl rfl rfl rfl rfl (fun _ _ hk => opv_move rfl rfl hk) ?_
    refine to_free rfl rfl rfl rfl rfl (fun _ _ hk => opv_extract rfl rfl rfl hk) ?_
    refine to_free rfl rfl rfl rfl rfl (fun _ _ hk => opv_extract rfl rfl rfl hk) ?_
    refine to_eff rfl rfl rfl rfl rfl (opv_alloc H rfl fun b3 h hb3 H => ?_)
    refine to_eff0 rfl rfl rfl rfl rfl (opv_store H rfl rfl rfl rfl rfl rfl rfl fun h H => ?_)
    refine to_end fun h J => ?_
    have H := J H
    refine ud_op 9 (by kernel_rfl) (by kernel_rfl) rfl rfl rfl rfl (opv_assign rfl rfl ?_)
    refine ud_end (by kernel_rfl) ?_
    repeat refine ur_seq ?_
    refine ur_region rfl ?_
    refine ur_opw rfl rfl rfl rfl rfl (opv_move rfl rfl ?_)
    refine ur_opw rfl rfl rfl rfl rfl (opv_not rfl rfl ?_)
    refine ur_region_end ?_
    repeat refine ur_seq ?_
    refine ur_condF rfl ?_
    refine ur_skip ?_
    repeat refine ur_seq ?_
    refine ur_region rfl ?_
    refine ur_opw rfl rfl rfl rfl rfl (opv_fieldAddr0 rfl rfl rfl ?_)
    refine ur_opw rfl rfl rfl rfl rfl (opv_load1 (by first | exact .inl (Has.has H) | exact .inr (Has.has HR)) rfl rfl rfl ?_)
    refine ur_opw rfl rfl rfl rfl rfl (opv_loadA (by first | exact .inl (Has.has H) | exact .inr (Has.has HR)) rfl rfl ?_)
    refine ur_opw rfl rfl rfl rfl rfl (opv_loadA (by first | exact .inl (Has.has H) | exact .inr (Has.has HR)) rfl rfl ?_)
    refine ur_opw rfl rfl rfl rfl rfl (opv_call (hb := hb) rfl rfl rfl (opv_to [] [] H (fun F1 h1 hF HR1 H1 => hs F1 h1 hF) ?_))
    rintro v h1 h ⟨rfl⟩ J
    have H := J (LN := []) trivial
    refine ur_opw rfl rfl rfl rfl rfl (opv_assign rfl rfl ?_)
    refine ur_region_end ?_
    exact ur_ret1 G Tryz.func105 rfl rfl rfl
  · -- an order
    refine ud_ro [0, 0] [1, 2, 0, 7, 3, 4, 5, 6, 8] [1, 2, 4, 5, 6] (by kernel_rfl) (by kernel_rfl) H fun F1 h hF1 HF H => ?_
    refine to_free rfl rfl rfl rfl rfl (fun _ _ hk => opv_fieldAddr0 rfl rfl rfl hk) ?_
    refine to_free rfl rfl rfl rfl rfl (fun _ _ hk => opv_load1 (by first | exact .inr (Has.has HF) | exact .inr (Has.has HR1) | exact .inr (Has.has (HR.mono hF1))) rfl rfl rfl hk) ?_
    refine to_eff rfl rfl rfl rfl rfl (opv_call rfl rfl rfl (opv_to [] [] H (fun F2 h1 hF2 HR1 H1 => have hF := Hp.le_trans hF1 hF2; ck_kinds) ?_))
    rintro v h1 h ⟨mb, rfl, H1⟩ J
    have H := J H1
    refine to_eff rfl rfl rfl rfl rfl (opv_alloc H rfl fun b3 h hb3 H => ?_)
    refine to_eff rfl rfl rfl rfl rfl (opv_lookup (.inl (Has.has H)) rfl rfl rfl hf ?_)
    refine to_free rfl rfl rfl rfl rfl (fun _ _ hk => opv_move rfl rfl hk) ?_
    refine to_free rfl rfl rfl rfl rfl (fun _ _ hk => opv_extract rfl rfl rfl hk) ?_
    refine to_free rfl rfl rfl rfl rfl (fun _ _ hk => opv_extract rfl rfl rfl hk) ?_
    refine to_eff0 rfl rfl rfl rfl rfl (opv_store H rfl rfl rfl rfl rfl rfl rfl fun h H => ?_)
    refine to_end fun h J => ?_
    have H := J H
    refine ud_op 9 (by kernel_rfl) (by kernel_rfl) rfl rfl rfl rfl (opv_assign rfl rfl ?_)
    refine ud_end (by kernel_rfl) ?_
    repeat refine ur_seq ?_
    refine ur_region rfl ?_
    refine ur_opw rfl rfl rfl rfl rfl (opv_move rfl rfl ?_)
    refine ur_opw rfl rfl rfl rfl rfl (opv_not rfl rfl ?_)
    refine ur_region_end ?_
    repeat refine ur_seq ?_
    refine ur_condF rfl ?_
    refine ur_skip ?_
    repeat refine ur_seq ?_
    refine ur_region rfl ?_
    refine ur_opw rfl rfl rfl rfl rfl (opv_fieldAddr0 rfl rfl rfl ?_)
    refine ur_opw rfl rfl rfl rfl rfl (opv_load1 (by first | exact .inl (Has.has H) | exact .inr (Has.has HR)) rfl rfl rfl ?_)
    refine ur_opw rfl rfl rfl rfl rfl (opv_loadA (by first | exact .inl (Has.has H) | exact .inr (Has.has HR)) rfl rfl ?_)
    refine ur_opw rfl rfl rfl rfl rfl (opv_loadA (by first | exact .inl (Has.has H) | exact .inr (Has.has HR)) rfl rfl ?_)
    refine ur_opw rfl rfl rfl rfl rfl (opv_call (hb := hb) rfl rfl rfl (opv_to [] [] H (fun F1 h1 hF HR1 H1 => hs F1 h1 hF) ?_))
    rintro v h1 h ⟨rfl⟩ J
    have H := J (LN := []) trivial
    refine ur_opw rfl rfl rfl rfl rfl (opv_assign rfl rfl ?_)
    refine ur_region_end ?_
    exact ur_ret1 G Tryz.func105 rfl rfl rfl
  · -- an order
    refine ud_ro [0, 0] [1, 2, 7, 0, 3, 4, 5, 6, 8] [1, 2, 4, 5, 6] (by kernel_rfl) (by kernel_rfl) H fun F1 h hF1 HF H => ?_
    refine to_free rfl rfl rfl rfl rfl (fun _ _ hk => opv_fieldAddr0 rfl rfl rfl hk) ?_
    refine to_free rfl rfl rfl rfl rfl (fun _ _ hk => opv_load1 (by first | exact .inr (Has.has HF) | exact .inr (Has.has HR1) | exact .inr (Has.has (HR.mono hF1))) rfl rfl rfl hk) ?_
    refine to_eff rfl rfl rfl rfl rfl (opv_alloc H rfl fun b3 h hb3 H => ?_)
    refine to_eff rfl rfl rfl rfl rfl (opv_call rfl rfl rfl (opv_to [] [] H (fun F2 h1 hF2 HR1 H1 => have hF := Hp.le_trans hF1 hF2; ck_kinds) ?_))
    rintro v h1 h ⟨mb, rfl, H1⟩ J
    have H := J H1
    refine to_eff rfl rfl rfl rfl rfl (opv_lookup (.inl (Has.has H)) rfl rfl rfl hf ?_)
    refine to_free rfl rfl rfl rfl rfl (fun _ _ hk => opv_move rfl rfl hk) ?_
    refine to_free rfl rfl rfl rfl rfl (fun _ _ hk => opv_extract rfl rfl rfl hk) ?_
    refine to_free rfl rfl rfl rfl rfl (fun _ _ hk => opv_extract rfl rfl rfl hk) ?_
    refine to_eff0 rfl rfl rfl rfl rfl (opv_store H rfl rfl rfl rfl rfl rfl rfl fun h H => ?_)
    refine to_end fun h J => ?_
    have H := J H
    refine ud_op 9 (by kernel_rfl) (by kernel_rfl) rfl rfl rfl rfl (opv_assign rfl rfl ?_)
    refine ud_end (by kernel_rfl) ?_
    repeat refine ur_seq ?_
    refine ur_region rfl ?_
    refine ur_opw rfl rfl rfl rfl rfl (opv_move rfl rfl ?_)
    refine ur_opw rfl rfl rfl rfl rfl (opv_not rfl rfl ?_)
    refine ur_region_end ?_
    repeat refine ur_seq ?_
    refine ur_condF rfl ?_
    refine ur_skip ?_
    repeat refine ur_seq ?_
    refine ur_region rfl ?_
    refine ur_opw rfl rfl rfl rfl rfl (opv_fieldAddr0 rfl rfl rfl ?_)
    refine ur_opw rfl rfl rfl rfl rfl (opv_load1 (by first | exact .inl (Has.has H) | exact .inr (Has.has HR)) rfl rfl rfl ?_)
    refine ur_opw rfl rfl rfl rfl rfl (opv_loadA (by first | exact .inl (Has.has H) | exact .inr (Has.has HR)) rfl rfl ?_)
    refine ur_opw rfl rfl rfl rfl rfl (opv_loadA (by first | exact .inl (Has.has H) | exact .inr (Has.has HR)) rfl rfl ?_)
    refine ur_opw rfl rfl rfl rfl rfl (opv_call (hb := hb) rfl rfl rfl (opv_to [] [] H (fun F1 h1 hF HR1 H1 => hs F1 h1 hF) ?_))
    rintro v h1 h ⟨rfl⟩ J
    have H := J (LN := []) trivial
    refine ur_opw rfl rfl rfl rfl rfl (opv_assign rfl rfl ?_)
    refine ur_region_end ?_
    exact ur_ret1 G Tryz.func105 rfl rfl rfl

theorem ck_check1 {x : Cl} (hf : Instr.findNow (.int .i64) (.int .i64 x.kind) kindsE 0 = some none) : CallS Tryz.prog F 105 [.agg (cfv c A).toArray, .agg (clv x).toArray].toArray h fun v h' => v = .int .i64 1 := by
  refine callS_intro Tryz.func105 rfl rfl rfl fun C G => ?_
  have H : Own [] h := trivial
  repeat refine ur_seq ?_
  refine ur_region rfl ?_
  refine ur_opw rfl rfl rfl rfl rfl (opv_box H rfl rfl fun b1 h hb1 H => ?_)
  refine ur_opw rfl rfl rfl rfl rfl (opv_box H rfl rfl fun b2 h hb2 H => ?_)
  refine ur_opw rfl rfl rfl rfl rfl (opv_assign rfl rfl ?_)
  refine ur_region_end ?_
  repeat refine ur_seq ?_
  refine ur_draw Tryz.mixed (by kernel_rfl) ?_
  refine ud_order 7 0 rfl (ud_order 7 3 rfl ?_ ?_) ?_
  · -- an order
    refine ud_ro [0, 0] [1, 2, 0] [1, 2] (by kernel_rfl) (by kernel_rfl) H fun F1 h hF1 HF H => ?_
    refine to_free rfl rfl rfl rfl rfl (fun _ _ hk => opv_fieldAddr0 rfl rfl rfl hk) ?_
    refine to_free rfl rfl rfl rfl rfl (fun _ _ hk => opv_load1 (by first | exact .inr (Has.has HF) | exact .inr (Has.has HR1) | exact .inr (Has.has (HR.mono hF1))) rfl rfl rfl hk) ?_
    refine to_eff rfl rfl rfl rfl rfl (opv_call rfl rfl rfl (opv_to [] [] H (fun F2 h1 hF2 HR1 H1 => have hF := Hp.le_trans hF1 hF2; ck_kinds) ?_))
    rintro v h1 h ⟨mb, rfl, H1⟩ J
    have H := J H1
    refine to_end fun h J => ?_
    have H := J H
    refine ud_op 3 (by kernel_rfl) (by kernel_rfl) rfl rfl rfl rfl (opv_lookup (.inl (Has.has H)) rfl rfl rfl hf ?_)
    refine ud_ro [] [4, 5, 6, 7, 8] [4, 5, 6] (by kernel_rfl) (by kernel_rfl) H fun F1 h hF1 HF H => ?_
    refine to_free rfl rfl rfl rfl rfl (fun _ _ hk => opv_move rfl rfl hk) ?_
    refine to_free rfl rfl rfl rfl rfl (fun _ _ hk => opv_extract rfl rfl rfl hk) ?_
    refine to_free rfl rfl rfl rfl rfl (fun _ _ hk => opv_extract rfl rfl rfl hk) ?_
    refine to_eff rfl rfl rfl rfl rfl (opv_alloc H rfl fun b3 h hb3 H => ?_)
    refine to_eff0 rfl rfl rfl rfl rfl (opv_store H rfl rfl rfl rfl rfl rfl rfl fun h H => ?_)
    refine to_end fun h J => ?_
    have H := J H
    refine ud_op 9 (by kernel_rfl) (by kernel_rfl) rfl rfl rfl rfl (opv_assign rfl rfl ?_)
    refine ud_end (by kernel_rfl) ?_
    repeat refine ur_seq ?_
    refine ur_region rfl ?_
    refine ur_opw rfl rfl rfl rfl rfl (opv_move rfl rfl ?_)
    refine ur_opw rfl rfl rfl rfl rfl (opv_not rfl rfl ?_)
    refine ur_region_end ?_
    repeat refine ur_seq ?_
    refine ur_condT rfl ?_
    repeat refine ur_seq ?_
    refine ur_region rfl ?_
    refine ur_opw rfl rfl rfl rfl rfl (opv_assign rfl rfl ?_)
    refine ur_region_end ?_
    exact ur_ret1 G Tryz.func105 rfl rfl rfl
  · -- an order
    refine ud_ro [0, 0] [1, 2, 0, 7, 3, 4, 5, 6, 8] [1, 2, 4, 5, 6] (by kernel_rfl) (by kernel_rfl) H fun F1 h hF1 HF H => ?_
    refine to_free rfl rfl rfl rfl rfl (fun _ _ hk => opv_fieldAddr0 rfl rfl rfl hk) ?_
    refine to_free rfl rfl rfl rfl rfl (fun _ _ hk => opv_load1 (by first | exact .inr (Has.has HF) | exact .inr (Has.has HR1) | exact .inr (Has.has (HR.mono hF1))) rfl rfl rfl hk) ?_
    refine to_eff rfl rfl rfl rfl rfl (opv_call rfl rfl rfl (opv_to [] [] H (fun F2 h1 hF2 HR1 H1 => have hF := Hp.le_trans hF1 hF2; ck_kinds) ?_))
    rintro v h1 h ⟨mb, rfl, H1⟩ J
    have H := J H1
    refine to_eff rfl rfl rfl rfl rfl (opv_alloc H rfl fun b3 h hb3 H => ?_)
    refine to_eff rfl rfl rfl rfl rfl (opv_lookup (.inl (Has.has H)) rfl rfl rfl hf ?_)
    refine to_free rfl rfl rfl rfl rfl (fun _ _ hk => opv_move rfl rfl hk) ?_
    refine to_free rfl rfl rfl rfl rfl (fun _ _ hk => opv_extract rfl rfl rfl hk) ?_
    refine to_free rfl rfl rfl rfl rfl (fun _ _ hk => opv_extract rfl rfl rfl hk) ?_
    refine to_eff0 rfl rfl rfl rfl rfl (opv_store H rfl rfl rfl rfl rfl rfl rfl fun h H => ?_)
    refine to_end fun h J => ?_
    have H := J H
    refine ud_op 9 (by kernel_rfl) (by kernel_rfl) rfl rfl rfl rfl (opv_assign rfl rfl ?_)
    refine ud_end (by kernel_rfl) ?_
    repeat refine ur_seq ?_
    refine ur_region rfl ?_
    refine ur_opw rfl rfl rfl rfl rfl (opv_move rfl rfl ?_)
    refine ur_opw rfl rfl rfl rfl rfl (opv_not rfl rfl ?_)
    refine ur_region_end ?_
    repeat refine ur_seq ?_
    refine ur_condT rfl ?_
    repeat refine ur_seq ?_
    refine ur_region rfl ?_
    refine ur_opw rfl rfl rfl rfl rfl (opv_assign rfl rfl ?_)
    refine ur_region_end ?_
    exact ur_ret1 G Tryz.func105 rfl rfl rfl
  · -- an order
    refine ud_ro [0, 0] [1, 2, 7, 0, 3, 4, 5, 6, 8] [1, 2, 4, 5, 6] (by kernel_rfl) (by kernel_rfl) H fun F1 h hF1 HF H => ?_
    refine to_free rfl rfl rfl rfl rfl (fun _ _ hk => opv_fieldAddr0 rfl rfl rfl hk) ?_
    refine to_free rfl rfl rfl rfl rfl (fun _ _ hk => opv_load1 (by first | exact .inr (Has.has HF) | exact .inr (Has.has HR1) | exact .inr (Has.has (HR.mono hF1))) rfl rfl rfl hk) ?_
    refine to_eff rfl rfl rfl rfl rfl (opv_alloc H rfl fun b3 h hb3 H => ?_)
    refine to_eff rfl rfl rfl rfl rfl (opv_call rfl rfl rfl (opv_to [] [] H (fun F2 h1 hF2 HR1 H1 => have hF := Hp.le_trans hF1 hF2; ck_kinds) ?_))
    rintro v h1 h ⟨mb, rfl, H1⟩ J
    have H := J H1
    refine to_eff rfl rfl rfl rfl rfl (opv_lookup (.inl (Has.has H)) rfl rfl rfl hf ?_)
    refine to_free rfl rfl rfl rfl rfl (fun _ _ hk => opv_move rfl rfl hk) ?_
    refine to_free rfl rfl rfl rfl rfl (fun _ _ hk => opv_extract rfl rfl rfl hk) ?_
    refine to_free rfl rfl rfl rfl rfl (fun _ _ hk => opv_extract rfl rfl rfl hk) ?_
    refine to_eff0 rfl rfl rfl rfl rfl (opv_store H rfl rfl rfl rfl rfl rfl rfl fun h H => ?_)
    refine to_end fun h J => ?_
    have H := J H
    refine ud_op 9 (by kernel_rfl) (by kernel_rfl) rfl rfl rfl rfl (opv_assign rfl rfl ?_)
    refine ud_end (by kernel_rfl) ?_
    repeat refine ur_seq ?_
    refine ur_region rfl ?_
    refine ur_opw rfl rfl rfl rfl rfl (opv_move rfl rfl ?_)
    refine ur_opw rfl rfl rfl rfl rfl (opv_not rfl rfl ?_)
    refine ur_region_end ?_
    repeat refine ur_seq ?_
    refine ur_condT rfl ?_
    repeat refine ur_seq ?_
    refine ur_region rfl ?_
    refine ur_opw rfl rfl rfl rfl rfl (opv_assign rfl rfl ?_)
    refine ur_region_end ?_
    exact ur_ret1 G Tryz.func105 rfl rfl rfl

theorem ck_check (o : c.Ok) (R : RdC F c A) {x : Cl} : CallS Tryz.prog F 105 [.agg (cfv c A).toArray, .agg (clv x).toArray].toArray h fun v h' => v = .int .i64 (c.check x) := by
  by_cases h1 : x.kind = 1
  · exact (ck_check0 (by rw [h1]; rfl) inferInstance fun F' h' hF => ck_leaf o (R.mono hF)).mono fun v h' e => by rw [e]; simp [Cf.check, h1]
  by_cases h2 : x.kind = 2
  · exact (ck_check0 (by rw [h2]; rfl) inferInstance fun F' h' hF => ck_named.mono fun _ _ e => e).mono fun v h' e => by rw [e]; simp [Cf.check, h2]
  by_cases h3 : x.kind = 3
  · exact (ck_check0 (by rw [h3]; rfl) inferInstance fun F' h' hF => ck_moved).mono fun v h' e => by rw [e]; simp [Cf.check, h3]
  by_cases h4 : x.kind = 4
  · exact (ck_check0 (by rw [h4]; rfl) inferInstance fun F' h' hF => ck_moved).mono fun v h' e => by rw [e]; simp [Cf.check, h4]
  by_cases h5 : x.kind = 5
  · exact (ck_check0 (by rw [h5]; rfl) inferInstance fun F' h' hF => ck_node).mono fun v h' e => by rw [e]; simp [Cf.check, h5]
  by_cases h6 : x.kind = 6
  · exact (ck_check0 (by rw [h6]; rfl) inferInstance fun F' h' hF => ck_node).mono fun v h' e => by rw [e]; simp [Cf.check, h6]
  have e1 := beq_eq_false_iff_ne.2 h1
  have e2 := beq_eq_false_iff_ne.2 h2
  have e3 := beq_eq_false_iff_ne.2 h3
  have e4 := beq_eq_false_iff_ne.2 h4
  have e5 := beq_eq_false_iff_ne.2 h5
  have e6 := beq_eq_false_iff_ne.2 h6
  exact (ck_check1 (by simp only [Instr.findNow, Instr.sameNow, kindsE, if_true, e1, e2, e3, e4, e5, e6])).mono fun v h' e => by rw [e]; simp [Cf.check, h1, h2, h3, h4, h5, h6]

/-- A machine behind an interface value. -/
def McR (b : Nat) : Mc → HProp
  | .sh s => ShR b s
  | .pk s => PkR b s
  | _ => fun _ => False
abbrev mcV (b : Nat) (m : Mc) : Value := .iface m.ty (.pointer (some ⟨b, 0, none⟩))

theorem us_peek (o : c.Ok) {u : Int} (h0 : 0 ≤ u) (hu : u < c.parents.length) : CallS Tryz.prog F 212 [.agg (cfv c A).toArray, .int .i64 u].toArray h fun v h' => ∃ b, v = .pointer (some ⟨b, 0, none⟩) ∧ Own [PkR b ⟨(c.counterAt u).toNat, false, .zero⟩] h' := by
  refine callS_intro Tryz.func212 rfl rfl rfl fun C G => ?_
  have hn := o.nodes
  have hs := o.stripes
  obtain ⟨hz0, hz1, hz2, hz3⟩ := o.node_lt h0 hu
  have e := Int.toNat_of_nonneg (show 0 ≤ c.counterAt u by unfold Cf.counterAt Cf.leaseAt; omega)
  have H : Own [] h := trivial
  repeat refine ur_seq ?_
  refine ur_region rfl ?_
  refine ur_opw rfl rfl rfl rfl rfl (opv_box H rfl rfl fun b1 h hb1 H => ?_)
  refine ur_opw rfl rfl rfl rfl rfl (opv_assign rfl rfl ?_)
  refine ur_region_end ?_
  repeat refine ur_seq ?_
  refine ur_region rfl ?_
  refine ur_opw rfl rfl rfl rfl rfl (opv_loadA (by first | exact .inl (Has.has H) | exact .inr (Has.has HR)) rfl rfl ?_)
  refine ur_opw rfl rfl rfl rfl rfl (opv_move rfl rfl ?_)
  refine ur_opw rfl rfl rfl rfl rfl (opv_call rfl rfl rfl (opv_to [] [] H (fun F1 h1 hF HR1 H1 => plan_counter o h0 (by omega)) ?_))
  rintro v h1 h ⟨rfl, H1⟩ J
  have H := J H1
  refine ur_opw rfl rfl rfl rfl rfl (opv_call rfl rfl rfl (opv_to [] [] H (fun F1 h1 hF HR1 H1 => e ▸ pk_peek) ?_))
  rintro v h1 h ⟨b, rfl, H1⟩ J
  have H := J H1
  refine ur_opw rfl rfl rfl rfl rfl (opv_assign rfl rfl ?_)
  refine ur_region_end ?_
  exact ur_ret1 G Tryz.func212 rfl rfl ⟨b, rfl, H.keep [0]⟩

theorem ck_made204 (o : c.Ok) {t : Int} {x : Cl} (h0 : 0 ≤ x.node) (hu : x.node < c.parents.length) : CallS Tryz.prog F 204 [.agg (cfv c A).toArray, .int .i64 t, .agg (clv x).toArray].toArray h fun v h' => ∃ b, v = mcV b (.sh (Sh.mk' .raise c x.node x.n)) ∧ Own [McR b (.sh (Sh.mk' .raise c x.node x.n))] h' := by
  refine callS_intro Tryz.func204 rfl rfl rfl fun C G => ?_
  have H : Own [] h := trivial
  repeat refine ur_seq ?_
  refine ur_region rfl ?_
  refine ur_opw rfl rfl rfl rfl rfl (opv_box H rfl rfl fun b1 h hb1 H => ?_)
  refine ur_opw rfl rfl rfl rfl rfl (opv_box H rfl rfl fun b2 h hb2 H => ?_)
  refine ur_opw rfl rfl rfl rfl rfl (opv_assign rfl rfl ?_)
  refine ur_region_end ?_
  repeat refine ur_seq ?_
  refine ur_region rfl ?_
  refine ur_opw rfl rfl rfl rfl rfl (opv_loadA (by first | exact .inl (Has.has H) | exact .inr (Has.has HR)) rfl rfl ?_)
  refine ur_opw rfl rfl rfl rfl rfl (opv_fieldAddr0 rfl rfl rfl ?_)
  refine ur_opw rfl rfl rfl rfl rfl (opv_load1 (by first | exact .inl (Has.has H) | exact .inr (Has.has HR)) rfl rfl rfl ?_)
  refine ur_opw rfl rfl rfl rfl rfl (opv_fieldAddr0 rfl rfl rfl ?_)
  refine ur_opw rfl rfl rfl rfl rfl (opv_load1 (by first | exact .inl (Has.has H) | exact .inr (Has.has HR)) rfl rfl rfl ?_)
  refine ur_opw rfl rfl rfl rfl rfl (opv_call rfl rfl rfl (opv_to [] [] H (fun F1 h1 hF HR1 H1 => sh_raise o h0 hu) ?_))
  rintro v h1 h ⟨b, rfl, H1⟩ J
  have H := J H1
  refine ur_opw rfl rfl rfl rfl rfl (opv_makeInterface rfl rfl ?_)
  refine ur_opw rfl rfl rfl rfl rfl (opv_assign rfl rfl ?_)
  refine ur_region_end ?_
  exact ur_ret1 G Tryz.func204 rfl rfl ⟨b, rfl, H.keep [0]⟩

theorem ck_made206 (o : c.Ok) {t : Int} {x : Cl} (h0 : 0 ≤ x.node) (hu : x.node < c.parents.length) : CallS Tryz.prog F 206 [.agg (cfv c A).toArray, .int .i64 t, .agg (clv x).toArray].toArray h fun v h' => ∃ b, v = mcV b (.sh (Sh.mk' .lower c x.node x.n)) ∧ Own [McR b (.sh (Sh.mk' .lower c x.node x.n))] h' := by
  refine callS_intro Tryz.func206 rfl rfl rfl fun C G => ?_
  have H : Own [] h := trivial
  repeat refine ur_seq ?_
  refine ur_region rfl ?_
  refine ur_opw rfl rfl rfl rfl rfl (opv_box H rfl rfl fun b1 h hb1 H => ?_)
  refine ur_opw rfl rfl rfl rfl rfl (opv_box H rfl rfl fun b2 h hb2 H => ?_)
  refine ur_opw rfl rfl rfl rfl rfl (opv_assign rfl rfl ?_)
  refine ur_region_end ?_
  repeat refine ur_seq ?_
  refine ur_region rfl ?_
  refine ur_opw rfl rfl rfl rfl rfl (opv_loadA (by first | exact .inl (Has.has H) | exact .inr (Has.has HR)) rfl rfl ?_)
  refine ur_opw rfl rfl rfl rfl rfl (opv_fieldAddr0 rfl rfl rfl ?_)
  refine ur_opw rfl rfl rfl rfl rfl (opv_load1 (by first | exact .inl (Has.has H) | exact .inr (Has.has HR)) rfl rfl rfl ?_)
  refine ur_opw rfl rfl rfl rfl rfl (opv_fieldAddr0 rfl rfl rfl ?_)
  refine ur_opw rfl rfl rfl rfl rfl (opv_load1 (by first | exact .inl (Has.has H) | exact .inr (Has.has HR)) rfl rfl rfl ?_)
  refine ur_opw rfl rfl rfl rfl rfl (opv_call rfl rfl rfl (opv_to [] [] H (fun F1 h1 hF HR1 H1 => sh_lower o h0 hu) ?_))
  rintro v h1 h ⟨b, rfl, H1⟩ J
  have H := J H1
  refine ur_opw rfl rfl rfl rfl rfl (opv_makeInterface rfl rfl ?_)
  refine ur_opw rfl rfl rfl rfl rfl (opv_assign rfl rfl ?_)
  refine ur_region_end ?_
  exact ur_ret1 G Tryz.func206 rfl rfl ⟨b, rfl, H.keep [0]⟩

theorem ck_made211 (o : c.Ok) {t : Int} {x : Cl} (h0 : 0 ≤ x.node) (hu : x.node < c.parents.length) : CallS Tryz.prog F 211 [.agg (cfv c A).toArray, .int .i64 t, .agg (clv x).toArray].toArray h fun v h' => ∃ b, v = mcV b (.pk ⟨(c.counterAt x.node).toNat, false, .zero⟩) ∧ Own [McR b (.pk ⟨(c.counterAt x.node).toNat, false, .zero⟩)] h' := by
  refine callS_intro Tryz.func211 rfl rfl rfl fun C G => ?_
  have H : Own [] h := trivial
  repeat refine ur_seq ?_
  refine ur_region rfl ?_
  refine ur_opw rfl rfl rfl rfl rfl (opv_box H rfl rfl fun b1 h hb1 H => ?_)
  refine ur_opw rfl rfl rfl rfl rfl (opv_box H rfl rfl fun b2 h hb2 H => ?_)
  refine ur_opw rfl rfl rfl rfl rfl (opv_assign rfl rfl ?_)
  refine ur_region_end ?_
  repeat refine ur_seq ?_
  refine ur_region rfl ?_
  refine ur_opw rfl rfl rfl rfl rfl (opv_loadA (by first | exact .inl (Has.has H) | exact .inr (Has.has HR)) rfl rfl ?_)
  refine ur_opw rfl rfl rfl rfl rfl (opv_fieldAddr0 rfl rfl rfl ?_)
  refine ur_opw rfl rfl rfl rfl rfl (opv_load1 (by first | exact .inl (Has.has H) | exact .inr (Has.has HR)) rfl rfl rfl ?_)
  refine ur_opw rfl rfl rfl rfl rfl (opv_call rfl rfl rfl (opv_to [] [] H (fun F1 h1 hF HR1 H1 => us_peek o h0 hu) ?_))
  rintro v h1 h ⟨b, rfl, H1⟩ J
  have H := J H1
  refine ur_opw rfl rfl rfl rfl rfl (opv_makeInterface rfl rfl ?_)
  refine ur_opw rfl rfl rfl rfl rfl (opv_assign rfl rfl ?_)
  refine ur_region_end ?_
  exact ur_ret1 G Tryz.func211 rfl rfl ⟨b, rfl, H.keep [0]⟩

theorem ck_new0 {t : Int} {x : Cl} {m : Mc} {f g i : Nat} (hf : Instr.findNow (.int .i64) (.int .i64 x.kind) kindsE 0 = some (some (i, .agg [Value.func (.func f) #[] #[], Value.func (.func g) #[] #[]].toArray))) (hb : HasBody Tryz.prog g) (hs : ∀ F' h', Hp.le F F' → CallS Tryz.prog F' g (([] ++ [Value.agg (cfv c A).toArray, Value.int .i64 t, Value.agg (clv x).toArray]) ++ []).toArray h' fun v h' => ∃ b, v = mcV b m ∧ Own [McR b m] h') : CallS Tryz.prog F 106 [.agg (cfv c A).toArray, .int .i64 t, .agg (clv x).toArray].toArray h fun v h' => ∃ b, v = mcV b m ∧ Own [McR b m] h' := by
  refine callS_intro Tryz.func106 rfl rfl rfl fun C G => ?_
  have H : Own [] h := trivial
  repeat refine ur_seq ?_
  refine ur_region rfl ?_
  refine ur_opw rfl rfl rfl rfl rfl (opv_box H rfl rfl fun b1 h hb1 H => ?_)
  refine ur_opw rfl rfl rfl rfl rfl (opv_box H rfl rfl fun b2 h hb2 H => ?_)
  refine ur_opw rfl rfl rfl rfl rfl (opv_assign rfl rfl ?_)
  refine ur_region_end ?_
  repeat refine ur_seq ?_
  refine ur_draw Tryz.mixed (by kernel_rfl) ?_
  refine ud_ro [0, 0] [1, 2, 5, 6, 7, 0, 3, 4] [1, 2, 5, 6, 7, 4] (by kernel_rfl) (by kernel_rfl) H fun F1 h hF1 HF H => ?_
  refine to_free rfl rfl rfl rfl rfl (fun _ _ hk => opv_fieldAddr0 rfl rfl rfl hk) ?_
  refine to_free rfl rfl rfl rfl rfl (fun _ _ hk => opv_load1 (by first | exact .inr (Has.has HF) | exact .inr (Has.has HR1) | exact .inr (Has.has (HR.mono hF1))) rfl rfl rfl hk) ?_
  refine to_free rfl rfl rfl rfl rfl (fun _ _ hk => opv_loadA (by first | exact .inr (Has.has HF) | exact .inr (Has.has HR1) | exact .inr (Has.has (HR.mono hF1))) rfl rfl hk) ?_
  refine to_free rfl rfl rfl rfl rfl (fun _ _ hk => opv_move rfl rfl hk) ?_
  refine to_free rfl rfl rfl rfl rfl (fun _ _ hk => opv_loadA (by first | exact .inr (Has.has HF) | exact .inr (Has.has HR1) | exact .inr (Has.has (HR.mono hF1))) rfl rfl hk) ?_
  refine to_eff rfl rfl rfl rfl rfl (opv_call rfl rfl rfl (opv_to [] [] H (fun F2 h1 hF2 HR1 H1 => have hF := Hp.le_trans hF1 hF2; ck_kinds) ?_))
  rintro v h1 h ⟨mb, rfl, H1⟩ J
  have H := J H1
  refine to_eff rfl rfl rfl rfl rfl (opv_lookup (.inl (Has.has H)) rfl rfl rfl hf ?_)
  refine to_free rfl rfl rfl rfl rfl (fun _ _ hk => opv_field1 rfl rfl rfl hk) ?_
  refine to_end fun h J => ?_
  have H := J H
  refine ud_op 8 (by kernel_rfl) (by kernel_rfl) rfl rfl rfl rfl (opv_call (hb := hb) rfl rfl rfl (opv_to [] [] H (fun F1 h1 hF HR1 H1 => hs _ _ hF) ?_))
  rintro v h1 h ⟨b, rfl, H1⟩ J
  have H := J H1
  refine ud_op 9 (by kernel_rfl) (by kernel_rfl) rfl rfl rfl rfl (opv_assign rfl rfl ?_)
  refine ud_end (by kernel_rfl) ?_
  exact ur_ret1 G Tryz.func106 rfl rfl ⟨b, rfl, H.keep [0]⟩

theorem ck_new (o : c.Ok) {t : Int} {x : Cl} (hk : x.kind = 3 ∨ x.kind = 4 ∨ x.kind = 6) (h0 : 0 ≤ x.node) (hu : x.node < c.parents.length) : CallS Tryz.prog F 106 [.agg (cfv c A).toArray, .int .i64 t, .agg (clv x).toArray].toArray h fun v h' => ∃ b, v = mcV b (c.newMc t x) ∧ Own [McR b (c.newMc t x)] h' := by
  rcases hk with h3 | h4 | h6
  · have e : c.newMc t x = .sh (Sh.mk' .raise c x.node x.n) := by simp [Cf.newMc, h3]
    rw [e]
    exact ck_new0 (by rw [h3]; rfl) inferInstance fun F' h' hF => ck_made204 o h0 hu
  · have e : c.newMc t x = .sh (Sh.mk' .lower c x.node x.n) := by simp [Cf.newMc, h4]
    rw [e]
    exact ck_new0 (by rw [h4]; rfl) inferInstance fun F' h' hF => ck_made206 o h0 hu
  · have e : c.newMc t x = .pk ⟨(c.counterAt x.node).toNat, false, .zero⟩ := by simp [Cf.newMc, h6]
    rw [e]
    exact ck_new0 (by rw [h6]; rfl) inferInstance fun F' h' hF => ck_made211 o h0 hu
end Go.Proofs
