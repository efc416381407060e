/- Packages pack, draw, slot: contracts. -/
import Derived.Test.YtnfcoikbkmhggaaGreatPure
set_option linter.all false
set_option linter.unusedVariables false
set_option linter.unusedSimpArgs false
namespace Go.Proofs
open Go.BL
variable {F h : Hp}

theorem pk_version {w : Int} : CallS Tryz.prog F 276 [.int .i64 w].toArray h fun v h' => v = .int .i64 (pkVersion w) ∧ Own [] h' := by
  have H : Own [] h := trivial
  refine callS_intro Tryz.func276 rfl rfl rfl fun C G => ?_
  repeat refine ur_seq ?_
  refine ur_region rfl ?_
  refine ur_opw rfl rfl rfl rfl rfl (opv_assign rfl rfl ?_)
  refine ur_region_end ?_
  repeat refine ur_seq ?_
  refine ur_region rfl ?_
  refine ur_opw rfl rfl rfl rfl rfl (opv_move rfl rfl ?_)
  refine ur_opw rfl rfl rfl rfl rfl (opv_convert rfl rfl rfl ?_)
  refine ur_opw rfl rfl rfl rfl rfl (opv_shift rfl rfl rfl rfl rfl ?_)
  refine ur_opw rfl rfl rfl rfl rfl (opv_convert rfl rfl rfl ?_)
  refine ur_opw rfl rfl rfl rfl rfl (opv_assign rfl rfl ?_)
  refine ur_region_end ?_
  exact ur_ret1 G Tryz.func276 rfl rfl ⟨rfl, trivial⟩

theorem pk_value {w : Int} : CallS Tryz.prog F 290 [.int .i64 w].toArray h fun v h' => v = .int .i64 (pkValue w) ∧ Own [] h' := by
  have H : Own [] h := trivial
  refine callS_intro Tryz.func290 rfl rfl rfl fun C G => ?_
  repeat refine ur_seq ?_
  refine ur_region rfl ?_
  refine ur_opw rfl rfl rfl rfl rfl (opv_assign rfl rfl ?_)
  refine ur_region_end ?_
  repeat refine ur_seq ?_
  refine ur_region rfl ?_
  refine ur_opw rfl rfl rfl rfl rfl (opv_move rfl rfl ?_)
  refine ur_opw rfl rfl rfl rfl rfl (opv_convert rfl rfl rfl ?_)
  refine ur_opw rfl rfl rfl rfl rfl (opv_convert rfl rfl rfl ?_)
  refine ur_opw rfl rfl rfl rfl rfl (opv_convert rfl rfl rfl ?_)
  refine ur_opw rfl rfl rfl rfl rfl (opv_convert rfl rfl rfl ?_)
  refine ur_opw rfl rfl rfl rfl rfl (opv_assign rfl rfl ?_)
  refine ur_region_end ?_
  exact ur_ret1 G Tryz.func290 rfl rfl ⟨rfl, trivial⟩

theorem pk_state {a b : Int} : CallS Tryz.prog F 321 [.int .i64 a, .int .i64 b].toArray h fun v h' => v = .int .i64 (if pkFine a b then 0 else 1) ∧ Own [] h' := by
  have H : Own [] h := trivial
  refine callS_intro Tryz.func321 rfl rfl rfl fun C G => ?_
  repeat refine ur_seq ?_
  refine ur_region rfl ?_
  refine ur_opw rfl rfl rfl rfl rfl (opv_assign rfl rfl ?_)
  refine ur_region_end ?_
  repeat refine ur_seq ?_
  refine ur_region rfl ?_
  refine ur_opw rfl rfl rfl rfl rfl (opv_move rfl rfl ?_)
  refine ur_opw rfl rfl rfl rfl rfl (opv_move rfl rfl ?_)
  refine ur_opw rfl rfl rfl rfl rfl (opv_convert rfl rfl rfl ?_)
  refine ur_opw rfl rfl rfl rfl rfl (opv_convert rfl rfl rfl ?_)
  refine ur_opw rfl rfl rfl rfl rfl (opv_cmp rfl rfl rfl rfl ?_)
  refine ur_opw rfl rfl rfl rfl rfl (opv_move rfl rfl ?_)
  refine ur_split 10 rfl (fun hc1 => ?_) (fun hc1 => ?_)
  · -- yes
    try simp only [decide_eq_true_eq, decide_eq_false_iff_not, Bool.not_eq_true', Bool.not_eq_false', beq_iff_eq, bne_iff_ne, beq_eq_false_iff_ne, bne_eq_false_iff_eq, ne_eq, Decidable.not_not] at hc1
    refine ur_pass rfl rfl rfl rfl ?_
    refine ur_pass rfl rfl rfl rfl ?_
    refine ur_pass rfl rfl rfl rfl ?_
    refine ur_pass rfl rfl rfl rfl ?_
    refine ur_pass rfl rfl rfl rfl ?_
    refine ur_opw rfl rfl rfl rfl rfl (opv_pick rfl rfl rfl ?_)
    refine ur_region_end ?_
    repeat refine ur_seq ?_
    refine ur_condT rfl ?_
    repeat refine ur_seq ?_
    refine ur_region rfl ?_
    refine ur_opw rfl rfl rfl rfl rfl (opv_assign rfl rfl ?_)
    refine ur_region_end ?_
    exact ur_ret1 G Tryz.func321 rfl rfl ⟨by unfold pkFine; split <;> first | rfl | (simp only [Bool.and_eq_true, beq_iff_eq] at *; omega), trivial⟩
  · -- no
    try simp only [decide_eq_true_eq, decide_eq_false_iff_not, Bool.not_eq_true', Bool.not_eq_false', beq_iff_eq, bne_iff_ne, beq_eq_false_iff_ne, bne_eq_false_iff_eq, ne_eq, Decidable.not_not] at hc1
    refine ur_opw rfl rfl rfl rfl rfl (opv_move rfl rfl ?_)
    refine ur_opw rfl rfl rfl rfl rfl (opv_move rfl rfl ?_)
    refine ur_opw rfl rfl rfl rfl rfl (opv_convert rfl rfl rfl ?_)
    refine ur_opw rfl rfl rfl rfl rfl (opv_convert rfl rfl rfl ?_)
    refine ur_opw rfl rfl rfl rfl rfl (opv_cmp rfl rfl rfl rfl ?_)
    refine ur_opw rfl rfl rfl rfl rfl (opv_pick rfl rfl rfl ?_)
    refine ur_region_end ?_
    repeat refine ur_seq ?_
    refine ur_cond rfl (fun hc2 => ?_) (fun hc2 => ?_)
    · -- yes
      try simp only [decide_eq_true_eq, decide_eq_false_iff_not, Bool.not_eq_true', Bool.not_eq_false', beq_iff_eq, bne_iff_ne, beq_eq_false_iff_ne, bne_eq_false_iff_eq, ne_eq, Decidable.not_not] at hc2
      repeat refine ur_seq ?_
      refine ur_region rfl ?_
      refine ur_opw rfl rfl rfl rfl rfl (opv_assign rfl rfl ?_)
      refine ur_region_end ?_
      exact ur_ret1 G Tryz.func321 rfl rfl ⟨by unfold pkFine; split <;> first | rfl | (simp only [Bool.and_eq_true, beq_iff_eq] at *; omega), trivial⟩
    · -- no
      try simp only [decide_eq_true_eq, decide_eq_false_iff_not, Bool.not_eq_true', Bool.not_eq_false', beq_iff_eq, bne_iff_ne, beq_eq_false_iff_ne, bne_eq_false_iff_eq, ne_eq, Decidable.not_not] at hc2
      refine ur_skip ?_
      repeat refine ur_seq ?_
      refine ur_region rfl ?_
      refine ur_opw rfl rfl rfl rfl rfl (opv_assign rfl rfl ?_)
      refine ur_region_end ?_
      exact ur_ret1 G Tryz.func321 rfl rfl ⟨by unfold pkFine; split <;> first | rfl | (simp only [Bool.and_eq_true, beq_iff_eq] at *; omega), trivial⟩

theorem pk_with {w on x : Int} : CallS Tryz.prog F 322 [.int .u64 w, .int .u32 on, .int .i64 x].toArray h fun v h' => v = .int .u64 (pkWith w on x) ∧ Own [] h' := by
  have H : Own [] h := trivial
  refine callS_intro Tryz.func322 rfl rfl rfl fun C G => ?_
  repeat refine ur_seq ?_
  refine ur_region rfl ?_
  refine ur_opw rfl rfl rfl rfl rfl (opv_assign rfl rfl ?_)
  refine ur_region_end ?_
  repeat refine ur_seq ?_
  refine ur_region rfl ?_
  refine ur_opw rfl rfl rfl rfl rfl (opv_move rfl rfl ?_)
  refine ur_opw rfl rfl rfl rfl rfl (opv_shift rfl rfl rfl rfl rfl ?_)
  refine ur_opw rfl rfl rfl rfl rfl (opv_convert rfl rfl rfl ?_)
  refine ur_opw rfl rfl rfl rfl rfl (opv_move rfl rfl ?_)
  refine ur_opw rfl rfl rfl rfl rfl (opv_arith rfl rfl rfl rfl (by first | exact wi (by omega) | rfl) ?_)
  refine ur_opw rfl rfl rfl rfl rfl (opv_convert rfl rfl rfl ?_)
  refine ur_opw rfl rfl rfl rfl rfl (opv_shift rfl rfl rfl rfl rfl ?_)
  refine ur_opw rfl rfl rfl rfl rfl (opv_move rfl rfl ?_)
  refine ur_opw rfl rfl rfl rfl rfl (opv_convert rfl rfl rfl ?_)
  refine ur_opw rfl rfl rfl rfl rfl (opv_convert rfl rfl rfl ?_)
  refine ur_opw rfl rfl rfl rfl rfl (opv_convert rfl rfl rfl ?_)
  refine ur_opw rfl rfl rfl rfl rfl (opv_bits rfl rfl rfl rfl rfl ?_)
  refine ur_opw rfl rfl rfl rfl rfl (opv_assign rfl rfl ?_)
  refine ur_region_end ?_
  exact ur_ret1 G Tryz.func322 rfl rfl ⟨rfl, trivial⟩

theorem pk_next {w x : Int} : CallS Tryz.prog F 300 [.int .i64 w, .int .i64 x].toArray h fun v h' => v = .tuple #[.int .i64 (pkNext w x).1, .bool (pkNext w x).2] ∧ Own [] h' := by
  have H : Own [] h := trivial
  refine callS_intro Tryz.func300 rfl rfl rfl fun C G => ?_
  repeat refine ur_seq ?_
  refine ur_region rfl ?_
  refine ur_opw rfl rfl rfl rfl rfl (opv_assign rfl rfl ?_)
  refine ur_opw rfl rfl rfl rfl rfl (opv_assign rfl rfl ?_)
  refine ur_region_end ?_
  repeat refine ur_seq ?_
  refine ur_region rfl ?_
  refine ur_opw rfl rfl rfl rfl rfl (opv_move rfl rfl ?_)
  refine ur_opw rfl rfl rfl rfl rfl (opv_call rfl rfl rfl (opv_to [] [] H (fun F1 h1 hF HR1 H1 => pk_state) ?_))
  rintro v h1 h ⟨rfl, H1⟩ J
  have H := J H1
  refine ur_opw rfl rfl rfl rfl rfl (opv_cmp rfl rfl rfl rfl ?_)
  refine ur_region_end ?_
  repeat refine ur_seq ?_
  refine ur_cond rfl (fun hc1 => ?_) (fun hc1 => ?_)
  · -- yes
    try simp only [decide_eq_true_eq, decide_eq_false_iff_not, Bool.not_eq_true', Bool.not_eq_false', beq_iff_eq, bne_iff_ne, beq_eq_false_iff_ne, bne_eq_false_iff_eq, ne_eq, Decidable.not_not] at hc1
    repeat refine ur_seq ?_
    refine ur_region rfl ?_
    refine ur_opw rfl rfl rfl rfl rfl (opv_assign rfl rfl ?_)
    refine ur_opw rfl rfl rfl rfl rfl (opv_assign rfl rfl ?_)
    refine ur_region_end ?_
    exact ur_ret2 G Tryz.func300 rfl rfl rfl ⟨by unfold pkNext; cases hf : pkFine 0 x <;> rw [hf] at hc1 <;> first | rfl | (exact absurd rfl hc1) | (exact absurd hc1 (by decide)), trivial⟩
  · -- no
    try simp only [decide_eq_true_eq, decide_eq_false_iff_not, Bool.not_eq_true', Bool.not_eq_false', beq_iff_eq, bne_iff_ne, beq_eq_false_iff_ne, bne_eq_false_iff_eq, ne_eq, Decidable.not_not] at hc1
    refine ur_skip ?_
    repeat refine ur_seq ?_
    refine ur_region rfl ?_
    refine ur_opw rfl rfl rfl rfl rfl (opv_move rfl rfl ?_)
    refine ur_opw rfl rfl rfl rfl rfl (opv_convert rfl rfl rfl ?_)
    refine ur_opw rfl rfl rfl rfl rfl (opv_makeFunc rfl rfl rfl ?_)
    refine ur_opw rfl rfl rfl rfl rfl (opv_assign rfl rfl ?_)
    refine ur_region_end ?_
    repeat refine ur_seq ?_
    refine ur_region rfl ?_
    refine ur_opw rfl rfl rfl rfl rfl (opv_move rfl rfl ?_)
    refine ur_opw rfl rfl rfl rfl rfl (opv_move rfl rfl ?_)
    refine ur_opw rfl rfl rfl rfl rfl (opv_call rfl rfl rfl (opv_to [] [] H (fun F1 h1 hF HR1 H1 => pk_with) ?_))
    rintro v h1 h ⟨rfl, H1⟩ J
    have H := J H1
    refine ur_opw rfl rfl rfl rfl rfl (opv_convert rfl rfl rfl ?_)
    refine ur_opw rfl rfl rfl rfl rfl (opv_assign rfl rfl ?_)
    refine ur_opw rfl rfl rfl rfl rfl (opv_assign rfl rfl ?_)
    refine ur_region_end ?_
    exact ur_ret2 G Tryz.func300 rfl rfl rfl ⟨by unfold pkNext; cases hf : pkFine 0 x <;> rw [hf] at hc1 <;> first | rfl | (exact absurd rfl hc1) | (exact absurd hc1 (by decide)), trivial⟩

theorem sl_known {s : Int} : CallS Tryz.prog F 291 [.int .i64 s].toArray h fun v h' => v = .bool (slKnown s) ∧ Own [] h' := by
  have H : Own [] h := trivial
  refine callS_intro Tryz.func291 rfl rfl rfl fun C G => ?_
  repeat refine ur_seq ?_
  refine ur_region rfl ?_
  refine ur_opw rfl rfl rfl rfl rfl (opv_assign rfl rfl ?_)
  refine ur_region_end ?_
  repeat refine ur_seq ?_
  refine ur_region rfl ?_
  refine ur_opw rfl rfl rfl rfl rfl (opv_move rfl rfl ?_)
  refine ur_opw rfl rfl rfl rfl rfl (opv_cmp rfl rfl rfl rfl ?_)
  refine ur_opw rfl rfl rfl rfl rfl (opv_move rfl rfl ?_)
  refine ur_split 5 rfl (fun hc1 => ?_) (fun hc1 => ?_)
  · -- yes
    try simp only [decide_eq_true_eq, decide_eq_false_iff_not, Bool.not_eq_true', Bool.not_eq_false', beq_iff_eq, bne_iff_ne, beq_eq_false_iff_ne, bne_eq_false_iff_eq, ne_eq, Decidable.not_not] at hc1
    refine ur_opw rfl rfl rfl rfl rfl (opv_move rfl rfl ?_)
    refine ur_opw rfl rfl rfl rfl rfl (opv_cmp rfl rfl rfl rfl ?_)
    refine ur_opw rfl rfl rfl rfl rfl (opv_pick rfl rfl rfl ?_)
    refine ur_opw rfl rfl rfl rfl rfl (opv_assign rfl rfl ?_)
    refine ur_region_end ?_
    exact ur_ret1 G Tryz.func291 rfl rfl ⟨by first | rfl | (simp [slKnown, *]; done) | (simp_all [slKnown]; done) | (simp [slKnown] at *; omega), trivial⟩
  · -- no
    try simp only [decide_eq_true_eq, decide_eq_false_iff_not, Bool.not_eq_true', Bool.not_eq_false', beq_iff_eq, bne_iff_ne, beq_eq_false_iff_ne, bne_eq_false_iff_eq, ne_eq, Decidable.not_not] at hc1
    refine ur_pass rfl rfl rfl rfl ?_
    refine ur_pass rfl rfl rfl rfl ?_
    refine ur_opw rfl rfl rfl rfl rfl (opv_pick rfl rfl rfl ?_)
    refine ur_opw rfl rfl rfl rfl rfl (opv_assign rfl rfl ?_)
    refine ur_region_end ?_
    exact ur_ret1 G Tryz.func291 rfl rfl ⟨by first | rfl | (simp [slKnown, *]; done) | (simp_all [slKnown]; done) | (simp [slKnown] at *; omega), trivial⟩

theorem sl_state {w : Int} : CallS Tryz.prog F 255 [.int .i64 w].toArray h fun v h' => v = .int .i64 (slState w) ∧ Own [] h' := by
  have H : Own [] h := trivial
  refine callS_intro Tryz.func255 rfl rfl rfl fun C G => ?_
  repeat refine ur_seq ?_
  refine ur_region rfl ?_
  refine ur_opw rfl rfl rfl rfl rfl (opv_assign rfl rfl ?_)
  refine ur_region_end ?_
  repeat refine ur_seq ?_
  refine ur_region rfl ?_
  refine ur_opw rfl rfl rfl rfl rfl (opv_move rfl rfl ?_)
  refine ur_opw rfl rfl rfl rfl rfl (opv_call rfl rfl rfl (opv_to [] [] H (fun F1 h1 hF HR1 H1 => pk_value) ?_))
  rintro v h1 h ⟨rfl, H1⟩ J
  have H := J H1
  refine ur_opw rfl rfl rfl rfl rfl (opv_assign rfl rfl ?_)
  refine ur_region_end ?_
  repeat refine ur_seq ?_
  refine ur_region rfl ?_
  refine ur_opw rfl rfl rfl rfl rfl (opv_move rfl rfl ?_)
  refine ur_opw rfl rfl rfl rfl rfl (opv_call rfl rfl rfl (opv_to [] [] H (fun F1 h1 hF HR1 H1 => sl_known) ?_))
  rintro v h1 h ⟨rfl, H1⟩ J
  have H := J H1
  refine ur_region_end ?_
  repeat refine ur_seq ?_
  refine ur_cond rfl (fun hc1 => ?_) (fun hc1 => ?_)
  · -- yes
    try simp only [decide_eq_true_eq, decide_eq_false_iff_not, Bool.not_eq_true', Bool.not_eq_false', beq_iff_eq, bne_iff_ne, beq_eq_false_iff_ne, bne_eq_false_iff_eq, ne_eq, Decidable.not_not] at hc1
    repeat refine ur_seq ?_
    refine ur_region rfl ?_
    refine ur_opw rfl rfl rfl rfl rfl (opv_move rfl rfl ?_)
    refine ur_opw rfl rfl rfl rfl rfl (opv_assign rfl rfl ?_)
    refine ur_region_end ?_
    exact ur_ret1 G Tryz.func255 rfl rfl ⟨by first | rfl | (simp [slState, *]; done) | (simp_all [slState]; done) | (simp [slState] at *; omega), trivial⟩
  · -- no
    try simp only [decide_eq_true_eq, decide_eq_false_iff_not, Bool.not_eq_true', Bool.not_eq_false', beq_iff_eq, bne_iff_ne, beq_eq_false_iff_ne, bne_eq_false_iff_eq, ne_eq, Decidable.not_not] at hc1
    refine ur_skip ?_
    repeat refine ur_seq ?_
    refine ur_region rfl ?_
    refine ur_opw rfl rfl rfl rfl rfl (opv_assign rfl rfl ?_)
    refine ur_region_end ?_
    exact ur_ret1 G Tryz.func255 rfl rfl ⟨by first | rfl | (simp [slState, *]; done) | (simp_all [slState]; done) | (simp [slState] at *; omega), trivial⟩

theorem sl_turn {w s : Int} : CallS Tryz.prog F 267 [.int .i64 w, .int .i64 s].toArray h fun v h' => v = .tuple #[.int .i64 (slTurn w s).1, .bool (slTurn w s).2] ∧ Own [] h' := by
  have H : Own [] h := trivial
  refine callS_intro Tryz.func267 rfl rfl rfl fun C G => ?_
  repeat refine ur_seq ?_
  refine ur_region rfl ?_
  refine ur_opw rfl rfl rfl rfl rfl (opv_assign rfl rfl ?_)
  refine ur_opw rfl rfl rfl rfl rfl (opv_assign rfl rfl ?_)
  refine ur_region_end ?_
  repeat refine ur_seq ?_
  refine ur_region rfl ?_
  refine ur_opw rfl rfl rfl rfl rfl (opv_move rfl rfl ?_)
  refine ur_opw rfl rfl rfl rfl rfl (opv_call rfl rfl rfl (opv_to [] [] H (fun F1 h1 hF HR1 H1 => sl_known) ?_))
  rintro v h1 h ⟨rfl, H1⟩ J
  have H := J H1
  refine ur_opw rfl rfl rfl rfl rfl (opv_not rfl rfl ?_)
  refine ur_region_end ?_
  repeat refine ur_seq ?_
  refine ur_cond rfl (fun hc1 => ?_) (fun hc1 => ?_)
  · -- yes
    try simp only [decide_eq_true_eq, decide_eq_false_iff_not, Bool.not_eq_true', Bool.not_eq_false', beq_iff_eq, bne_iff_ne, beq_eq_false_iff_ne, bne_eq_false_iff_eq, ne_eq, Decidable.not_not] at hc1
    repeat refine ur_seq ?_
    refine ur_region rfl ?_
    refine ur_opw rfl rfl rfl rfl rfl (opv_assign rfl rfl ?_)
    refine ur_opw rfl rfl rfl rfl rfl (opv_assign rfl rfl ?_)
    refine ur_region_end ?_
    exact ur_ret2 G Tryz.func267 rfl rfl rfl ⟨by first | rfl | (simp [slTurn, *]; done) | (simp_all [slTurn]; done) | (simp [slTurn] at *; omega), trivial⟩
  · -- no
    try simp only [decide_eq_true_eq, decide_eq_false_iff_not, Bool.not_eq_true', Bool.not_eq_false', beq_iff_eq, bne_iff_ne, beq_eq_false_iff_ne, bne_eq_false_iff_eq, ne_eq, Decidable.not_not] at hc1
    refine ur_skip ?_
    repeat refine ur_seq ?_
    refine ur_region rfl ?_
    refine ur_opw rfl rfl rfl rfl rfl (opv_move rfl rfl ?_)
    refine ur_opw rfl rfl rfl rfl rfl (opv_move rfl rfl ?_)
    refine ur_opw rfl rfl rfl rfl rfl (opv_call rfl rfl rfl (opv_to [] [] H (fun F1 h1 hF HR1 H1 => pk_next) ?_))
    rintro v h1 h ⟨rfl, H1⟩ J
    have H := J H1
    refine ur_opw rfl rfl rfl rfl rfl (opv_extract rfl rfl rfl ?_)
    refine ur_opw rfl rfl rfl rfl rfl (opv_extract rfl rfl rfl ?_)
    refine ur_opw rfl rfl rfl rfl rfl (opv_assign rfl rfl ?_)
    refine ur_opw rfl rfl rfl rfl rfl (opv_assign rfl rfl ?_)
    refine ur_region_end ?_
    exact ur_ret2 G Tryz.func267 rfl rfl rfl ⟨by first | rfl | (simp [slTurn, *]; done) | (simp_all [slTurn]; done) | (simp [slTurn] at *; omega), trivial⟩

theorem bd_right {a n : Int} : CallS Tryz.prog F 289 [.agg [.int .i64 a, .int .i64 n].toArray].toArray h fun v h' => v = .bool (bdRight a n) ∧ Own [] h' := by
  have H : Own [] h := trivial
  refine callS_intro Tryz.func289 rfl rfl rfl fun C G => ?_
  repeat refine ur_seq ?_
  refine ur_region rfl ?_
  refine ur_opw rfl rfl rfl rfl rfl (opv_box H rfl rfl fun b1 h hb1 H => ?_)
  refine ur_opw rfl rfl rfl rfl rfl (opv_assign rfl rfl ?_)
  refine ur_region_end ?_
  repeat refine ur_seq ?_
  refine ur_region rfl ?_
  refine ur_opw rfl rfl rfl rfl rfl (opv_fieldAddr0 rfl rfl rfl ?_)
  refine ur_opw rfl rfl rfl rfl rfl (opv_load1 (by first | exact .inl (Has.has H) | exact .inr (Has.has HR)) rfl rfl rfl ?_)
  refine ur_opw rfl rfl rfl rfl rfl (opv_cmp rfl rfl rfl rfl ?_)
  refine ur_opw rfl rfl rfl rfl rfl (opv_move rfl rfl ?_)
  refine ur_split 6 rfl (fun hc2 => ?_) (fun hc2 => ?_)
  · -- yes
    try simp only [decide_eq_true_eq, decide_eq_false_iff_not, Bool.not_eq_true', Bool.not_eq_false', beq_iff_eq, bne_iff_ne, beq_eq_false_iff_ne, bne_eq_false_iff_eq, ne_eq, Decidable.not_not] at hc2
    refine ur_opw rfl rfl rfl rfl rfl (opv_fieldAddr0 rfl rfl rfl ?_)
    refine ur_opw rfl rfl rfl rfl rfl (opv_load1 (by first | exact .inl (Has.has H) | exact .inr (Has.has HR)) rfl rfl rfl ?_)
    refine ur_opw rfl rfl rfl rfl rfl (opv_cmp rfl rfl rfl rfl ?_)
    refine ur_opw rfl rfl rfl rfl rfl (opv_pick rfl rfl rfl ?_)
    refine ur_opw rfl rfl rfl rfl rfl (opv_move rfl rfl ?_)
    refine ur_split 11 rfl (fun hc3 => ?_) (fun hc3 => ?_)
    · -- yes
      try simp only [decide_eq_true_eq, decide_eq_false_iff_not, Bool.not_eq_true', Bool.not_eq_false', beq_iff_eq, bne_iff_ne, beq_eq_false_iff_ne, bne_eq_false_iff_eq, ne_eq, Decidable.not_not] at hc3
      refine ur_opw rfl rfl rfl rfl rfl (opv_fieldAddr0 rfl rfl rfl ?_)
      refine ur_opw rfl rfl rfl rfl rfl (opv_load1 (by first | exact .inl (Has.has H) | exact .inr (Has.has HR)) rfl rfl rfl ?_)
      refine ur_opw rfl rfl rfl rfl rfl (opv_cmp rfl rfl rfl rfl ?_)
      refine ur_opw rfl rfl rfl rfl rfl (opv_pick rfl rfl rfl ?_)
      refine ur_opw rfl rfl rfl rfl rfl (opv_move rfl rfl ?_)
      refine ur_split 16 rfl (fun hc4 => ?_) (fun hc4 => ?_)
      · -- yes
        try simp only [decide_eq_true_eq, decide_eq_false_iff_not, Bool.not_eq_true', Bool.not_eq_false', beq_iff_eq, bne_iff_ne, beq_eq_false_iff_ne, bne_eq_false_iff_eq, ne_eq, Decidable.not_not] at hc4
        refine ur_opw rfl rfl rfl rfl rfl (opv_fieldAddr0 rfl rfl rfl ?_)
        refine ur_opw rfl rfl rfl rfl rfl (opv_load1 (by first | exact .inl (Has.has H) | exact .inr (Has.has HR)) rfl rfl rfl ?_)
        refine ur_opw rfl rfl rfl rfl rfl (opv_cmp rfl rfl rfl rfl ?_)
        refine ur_opw rfl rfl rfl rfl rfl (opv_pick rfl rfl rfl ?_)
        refine ur_opw rfl rfl rfl rfl rfl (opv_assign rfl rfl ?_)
        refine ur_region_end ?_
        exact ur_ret1 G Tryz.func289 rfl rfl ⟨by first | rfl | (simp [bdRight, *]; done) | (simp_all [bdRight]; done) | (simp [bdRight] at *; omega), trivial⟩
      · -- no
        try simp only [decide_eq_true_eq, decide_eq_false_iff_not, Bool.not_eq_true', Bool.not_eq_false', beq_iff_eq, bne_iff_ne, beq_eq_false_iff_ne, bne_eq_false_iff_eq, ne_eq, Decidable.not_not] at hc4
        refine ur_pass rfl rfl rfl rfl ?_
        refine ur_pass rfl rfl rfl rfl ?_
        refine ur_pass rfl rfl rfl rfl ?_
        refine ur_opw rfl rfl rfl rfl rfl (opv_pick rfl rfl rfl ?_)
        refine ur_opw rfl rfl rfl rfl rfl (opv_assign rfl rfl ?_)
        refine ur_region_end ?_
        exact ur_ret1 G Tryz.func289 rfl rfl ⟨by first | rfl | (simp [bdRight, *]; done) | (simp_all [bdRight]; done) | (simp [bdRight] at *; omega), trivial⟩
    · -- no
      try simp only [decide_eq_true_eq, decide_eq_false_iff_not, Bool.not_eq_true', Bool.not_eq_false', beq_iff_eq, bne_iff_ne, beq_eq_false_iff_ne, bne_eq_false_iff_eq, ne_eq, Decidable.not_not] at hc3
      refine ur_pass rfl rfl rfl rfl ?_
      refine ur_pass rfl rfl rfl rfl ?_
      refine ur_pass rfl rfl rfl rfl ?_
      refine ur_opw rfl rfl rfl rfl rfl (opv_pick rfl rfl rfl ?_)
      refine ur_opw rfl rfl rfl rfl rfl (opv_move rfl rfl ?_)
      refine ur_pass rfl rfl rfl rfl ?_
      refine ur_pass rfl rfl rfl rfl ?_
      refine ur_pass rfl rfl rfl rfl ?_
      refine ur_opw rfl rfl rfl rfl rfl (opv_pick rfl rfl rfl ?_)
      refine ur_opw rfl rfl rfl rfl rfl (opv_assign rfl rfl ?_)
      refine ur_region_end ?_
      exact ur_ret1 G Tryz.func289 rfl rfl ⟨by first | rfl | (simp [bdRight, *]; done) | (simp_all [bdRight]; done) | (simp [bdRight] at *; omega), trivial⟩
  · -- no
    try simp only [decide_eq_true_eq, decide_eq_false_iff_not, Bool.not_eq_true', Bool.not_eq_false', beq_iff_eq, bne_iff_ne, beq_eq_false_iff_ne, bne_eq_false_iff_eq, ne_eq, Decidable.not_not] at hc2
    refine ur_pass rfl rfl rfl rfl ?_
    refine ur_pass rfl rfl rfl rfl ?_
    refine ur_pass rfl rfl rfl rfl ?_
    refine ur_opw rfl rfl rfl rfl rfl (opv_pick rfl rfl rfl ?_)
    refine ur_opw rfl rfl rfl rfl rfl (opv_move rfl rfl ?_)
    refine ur_pass rfl rfl rfl rfl ?_
    refine ur_pass rfl rfl rfl rfl ?_
    refine ur_pass rfl rfl rfl rfl ?_
    refine ur_opw rfl rfl rfl rfl rfl (opv_pick rfl rfl rfl ?_)
    refine ur_opw rfl rfl rfl rfl rfl (opv_move rfl rfl ?_)
    refine ur_pass rfl rfl rfl rfl ?_
    refine ur_pass rfl rfl rfl rfl ?_
    refine ur_pass rfl rfl rfl rfl ?_
    refine ur_opw rfl rfl rfl rfl rfl (opv_pick rfl rfl rfl ?_)
    refine ur_opw rfl rfl rfl rfl rfl (opv_assign rfl rfl ?_)
    refine ur_region_end ?_
    exact ur_ret1 G Tryz.func289 rfl rfl ⟨by first | rfl | (simp [bdRight, *]; done) | (simp_all [bdRight]; done) | (simp [bdRight] at *; omega), trivial⟩

theorem bd_word {a n : Int} : CallS Tryz.prog F 299 [.agg [.int .i64 a, .int .i64 n].toArray].toArray h fun v h' => v = .int .i64 (bdWord a n) ∧ Own [] h' := by
  have H : Own [] h := trivial
  refine callS_intro Tryz.func299 rfl rfl rfl fun C G => ?_
  repeat refine ur_seq ?_
  refine ur_region rfl ?_
  refine ur_opw rfl rfl rfl rfl rfl (opv_box H rfl rfl fun b1 h hb1 H => ?_)
  refine ur_opw rfl rfl rfl rfl rfl (opv_assign rfl rfl ?_)
  refine ur_region_end ?_
  repeat refine ur_seq ?_
  refine ur_region rfl ?_
  refine ur_opw rfl rfl rfl rfl rfl (opv_fieldAddr0 rfl rfl rfl ?_)
  refine ur_opw rfl rfl rfl rfl rfl (opv_load1 (by first | exact .inl (Has.has H) | exact .inr (Has.has HR)) rfl rfl rfl ?_)
  refine ur_opw rfl rfl rfl rfl rfl (opv_shift rfl rfl rfl rfl rfl ?_)
  refine ur_opw rfl rfl rfl rfl rfl (opv_fieldAddr0 rfl rfl rfl ?_)
  refine ur_opw rfl rfl rfl rfl rfl (opv_load1 (by first | exact .inl (Has.has H) | exact .inr (Has.has HR)) rfl rfl rfl ?_)
  refine ur_opw rfl rfl rfl rfl rfl (opv_bits rfl rfl rfl rfl rfl ?_)
  refine ur_opw rfl rfl rfl rfl rfl (opv_assign rfl rfl ?_)
  refine ur_region_end ?_
  exact ur_ret1 G Tryz.func299 rfl rfl ⟨rfl, trivial⟩

theorem sl_body {a n : Int} : CallS Tryz.prog F 266 [.int .i64 a, .int .i64 n].toArray h fun v h' => v = .tuple #[.int .i64 (slBody a n).1, .bool (slBody a n).2] ∧ Own [] h' := by
  have H : Own [] h := trivial
  refine callS_intro Tryz.func266 rfl rfl rfl fun C G => ?_
  repeat refine ur_seq ?_
  refine ur_region rfl ?_
  refine ur_opw rfl rfl rfl rfl rfl (opv_assign rfl rfl ?_)
  refine ur_opw rfl rfl rfl rfl rfl (opv_assign rfl rfl ?_)
  refine ur_region_end ?_
  repeat refine ur_seq ?_
  refine ur_region rfl ?_
  refine ur_opw rfl rfl rfl rfl rfl (opv_move rfl rfl ?_)
  refine ur_opw rfl rfl rfl rfl rfl (opv_move rfl rfl ?_)
  refine ur_opw rfl rfl rfl rfl rfl (opv_build rfl rfl ?_)
  refine ur_opw rfl rfl rfl rfl rfl (opv_alloc H rfl fun b1 h hb1 H => ?_)
  refine ur_opw0 rfl rfl rfl rfl (opv_store H rfl rfl rfl rfl rfl rfl rfl fun h H => ?_)
  refine ur_region_end ?_
  repeat refine ur_seq ?_
  refine ur_region rfl ?_
  refine ur_opw rfl rfl rfl rfl rfl (opv_loadA (by first | exact .inl (Has.has H) | exact .inr (Has.has HR)) rfl rfl ?_)
  refine ur_opw rfl rfl rfl rfl rfl (opv_call rfl rfl rfl (opv_to [] [] H (fun F1 h1 hF HR1 H1 => bd_right) ?_))
  rintro v h1 h ⟨rfl, H1⟩ J
  have H := J H1
  refine ur_opw rfl rfl rfl rfl rfl (opv_not rfl rfl ?_)
  refine ur_region_end ?_
  repeat refine ur_seq ?_
  refine ur_cond rfl (fun hc2 => ?_) (fun hc2 => ?_)
  · -- yes
    try simp only [decide_eq_true_eq, decide_eq_false_iff_not, Bool.not_eq_true', Bool.not_eq_false', beq_iff_eq, bne_iff_ne, beq_eq_false_iff_ne, bne_eq_false_iff_eq, ne_eq, Decidable.not_not] at hc2
    repeat refine ur_seq ?_
    refine ur_region rfl ?_
    refine ur_opw rfl rfl rfl rfl rfl (opv_assign rfl rfl ?_)
    refine ur_opw rfl rfl rfl rfl rfl (opv_assign rfl rfl ?_)
    refine ur_region_end ?_
    exact ur_ret2 G Tryz.func266 rfl rfl rfl ⟨by first | rfl | (simp [slBody, *]; done) | (simp_all [slBody]; done) | (simp [slBody] at *; omega), trivial⟩
  · -- no
    try simp only [decide_eq_true_eq, decide_eq_false_iff_not, Bool.not_eq_true', Bool.not_eq_false', beq_iff_eq, bne_iff_ne, beq_eq_false_iff_ne, bne_eq_false_iff_eq, ne_eq, Decidable.not_not] at hc2
    refine ur_skip ?_
    repeat refine ur_seq ?_
    refine ur_region rfl ?_
    refine ur_opw rfl rfl rfl rfl rfl (opv_loadA (by first | exact .inl (Has.has H) | exact .inr (Has.has HR)) rfl rfl ?_)
    refine ur_opw rfl rfl rfl rfl rfl (opv_call rfl rfl rfl (opv_to [] [] H (fun F1 h1 hF HR1 H1 => bd_word) ?_))
    rintro v h1 h ⟨rfl, H1⟩ J
    have H := J H1
    refine ur_opw rfl rfl rfl rfl rfl (opv_assign rfl rfl ?_)
    refine ur_opw rfl rfl rfl rfl rfl (opv_assign rfl rfl ?_)
    refine ur_region_end ?_
    exact ur_ret2 G Tryz.func266 rfl rfl rfl ⟨by first | rfl | (simp [slBody, *]; done) | (simp_all [slBody]; done) | (simp [slBody] at *; omega), trivial⟩

theorem sl_of {w : Int} : CallS Tryz.prog F 254 [.int .i64 w].toArray h fun v h' => v = .tuple #[.int .i64 (slOf w).1, .int .i64 (slOf w).2.1, .bool (slOf w).2.2] ∧ Own [] h' := by
  have H : Own [] h := trivial
  refine callS_intro Tryz.func254 rfl rfl rfl fun C G => ?_
  repeat refine ur_seq ?_
  refine ur_region rfl ?_
  refine ur_opw rfl rfl rfl rfl rfl (opv_assign rfl rfl ?_)
  refine ur_opw rfl rfl rfl rfl rfl (opv_assign rfl rfl ?_)
  refine ur_opw rfl rfl rfl rfl rfl (opv_assign rfl rfl ?_)
  refine ur_region_end ?_
  repeat refine ur_seq ?_
  refine ur_region rfl ?_
  refine ur_opw rfl rfl rfl rfl rfl (opv_move rfl rfl ?_)
  refine ur_opw rfl rfl rfl rfl rfl (opv_shift rfl rfl rfl rfl rfl ?_)
  refine ur_opw rfl rfl rfl rfl rfl (opv_move rfl rfl ?_)
  refine ur_opw rfl rfl rfl rfl rfl (opv_bits rfl rfl rfl rfl rfl ?_)
  refine ur_opw rfl rfl rfl rfl rfl (opv_build rfl rfl ?_)
  refine ur_opw rfl rfl rfl rfl rfl (opv_alloc H rfl fun b1 h hb1 H => ?_)
  refine ur_opw0 rfl rfl rfl rfl (opv_store H rfl rfl rfl rfl rfl rfl rfl fun h H => ?_)
  refine ur_region_end ?_
  repeat refine ur_seq ?_
  refine ur_region rfl ?_
  refine ur_opw rfl rfl rfl rfl rfl (opv_loadA (by first | exact .inl (Has.has H) | exact .inr (Has.has HR)) rfl rfl ?_)
  refine ur_opw rfl rfl rfl rfl rfl (opv_call rfl rfl rfl (opv_to [] [] H (fun F1 h1 hF HR1 H1 => bd_right (a := shr .i64 w 21) (n := andB .i64 w 2097151)) ?_))
  rintro v h1 h ⟨rfl, H1⟩ J
  have H := J H1
  refine ur_opw rfl rfl rfl rfl rfl (opv_not rfl rfl ?_)
  refine ur_region_end ?_
  repeat refine ur_seq ?_
  refine ur_cond rfl (fun hc2 => ?_) (fun hc2 => ?_)
  · -- yes
    try simp only [decide_eq_true_eq, decide_eq_false_iff_not, Bool.not_eq_true', Bool.not_eq_false', beq_iff_eq, bne_iff_ne, beq_eq_false_iff_ne, bne_eq_false_iff_eq, ne_eq, Decidable.not_not] at hc2
    repeat refine ur_seq ?_
    refine ur_region rfl ?_
    refine ur_opw rfl rfl rfl rfl rfl (opv_assign rfl rfl ?_)
    refine ur_opw rfl rfl rfl rfl rfl (opv_assign rfl rfl ?_)
    refine ur_opw rfl rfl rfl rfl rfl (opv_assign rfl rfl ?_)
    refine ur_region_end ?_
    exact ur_ret3 G Tryz.func254 rfl rfl rfl rfl ⟨by unfold slOf; rw [hc2]; rfl, trivial⟩
  · -- no
    try simp only [decide_eq_true_eq, decide_eq_false_iff_not, Bool.not_eq_true', Bool.not_eq_false', beq_iff_eq, bne_iff_ne, beq_eq_false_iff_ne, bne_eq_false_iff_eq, ne_eq, Decidable.not_not] at hc2
    refine ur_skip ?_
    repeat refine ur_seq ?_
    refine ur_draw Tryz.mixed (by kernel_rfl) ?_
    refine ud_all [0, 1, 2, 3, 4] (by kernel_rfl) (by kernel_rfl) H fun F1 hF1 HF => ?_
    refine to_free rfl rfl rfl rfl rfl (fun _ _ hk => opv_fieldAddr0 rfl rfl rfl hk) ?_
    refine to_free rfl rfl rfl rfl rfl (fun _ _ hk => opv_load1 (by first | exact .inr (Has.has HF) | exact .inr (Has.has HR1) | exact .inr (Has.has (HR.mono hF1))) rfl rfl rfl hk) ?_
    refine to_free rfl rfl rfl rfl rfl (fun _ _ hk => opv_fieldAddr0 rfl rfl rfl hk) ?_
    refine to_free rfl rfl rfl rfl rfl (fun _ _ hk => opv_load1 (by first | exact .inr (Has.has HF) | exact .inr (Has.has HR1) | exact .inr (Has.has (HR.mono hF1))) rfl rfl rfl hk) ?_
    refine to_free rfl rfl rfl rfl rfl (fun _ _ hk => opv_assign rfl rfl hk) ?_
    refine to_end ?_
    refine ud_op 5 (by kernel_rfl) (by kernel_rfl) rfl rfl rfl rfl (opv_assign rfl rfl ?_)
    refine ud_op 6 (by kernel_rfl) (by kernel_rfl) rfl rfl rfl rfl (opv_assign rfl rfl ?_)
    refine ud_end (by kernel_rfl) ?_
    exact ur_ret3 G Tryz.func254 rfl rfl rfl rfl ⟨by unfold slOf; rw [hc2]; rfl, trivial⟩

theorem sl_named0 {n : Int} : CallS Tryz.prog F 274 [.int .i64 n].toArray h fun v h' => v = .agg [.int .i64 (hdT n), .int .i64 (hdV n)].toArray ∧ Own [] h' := by
  have H : Own [] h := trivial
  refine callS_intro Tryz.func274 rfl rfl rfl fun C G => ?_
  repeat refine ur_seq ?_
  refine ur_region rfl ?_
  refine ur_opw rfl rfl rfl rfl rfl (opv_alloc H rfl fun b1 h hb1 H => ?_)
  refine ur_region_end ?_
  repeat refine ur_seq ?_
  refine ur_region rfl ?_
  refine ur_opw rfl rfl rfl rfl rfl (opv_move rfl rfl ?_)
  refine ur_opw rfl rfl rfl rfl rfl (opv_rem rfl rfl rfl (by omega) ?_)
  refine ur_opw rfl rfl rfl rfl rfl (opv_move rfl rfl ?_)
  refine ur_opw rfl rfl rfl rfl rfl (opv_arith rfl rfl rfl rfl (by first | exact wi (by omega) | rfl) ?_)
  refine ur_opw rfl rfl rfl rfl rfl (opv_build rfl rfl ?_)
  refine ur_opw0 rfl rfl rfl rfl (opv_store H rfl rfl rfl rfl rfl rfl rfl fun h H => ?_)
  refine ur_region_end ?_
  exact ur_retA G H Tryz.func274 rfl rfl ⟨rfl, trivial⟩

theorem sl_named {n t : Int} : CallS Tryz.prog F 241 [.int .i64 n, .int .i64 t].toArray h fun v h' => v = .tuple #[.int .i64 (slNamed n t).1, .int .i64 (slNamed n t).2.1, .bool (slNamed n t).2.2] ∧ Own [] h' := by
  have H : Own [] h := trivial
  refine callS_intro Tryz.func241 rfl rfl rfl fun C G => ?_
  repeat refine ur_seq ?_
  refine ur_region rfl ?_
  refine ur_opw rfl rfl rfl rfl rfl (opv_assign rfl rfl ?_)
  refine ur_opw rfl rfl rfl rfl rfl (opv_assign rfl rfl ?_)
  refine ur_opw rfl rfl rfl rfl rfl (opv_assign rfl rfl ?_)
  refine ur_region_end ?_
  repeat refine ur_seq ?_
  refine ur_region rfl ?_
  refine ur_opw rfl rfl rfl rfl rfl (opv_move rfl rfl ?_)
  refine ur_opw rfl rfl rfl rfl rfl (opv_call rfl rfl rfl (opv_to [] [] H (fun F1 h1 hF HR1 H1 => sl_named0) ?_))
  rintro v h1 h ⟨rfl, H1⟩ J
  have H := J H1
  refine ur_opw rfl rfl rfl rfl rfl (opv_alloc H rfl fun b1 h hb1 H => ?_)
  refine ur_opw0 rfl rfl rfl rfl (opv_store H rfl rfl rfl rfl rfl rfl rfl fun h H => ?_)
  refine ur_region_end ?_
  repeat refine ur_seq ?_
  refine ur_region rfl ?_
  refine ur_opw rfl rfl rfl rfl rfl (opv_move rfl rfl ?_)
  refine ur_opw rfl rfl rfl rfl rfl (opv_cmp rfl rfl rfl rfl ?_)
  refine ur_opw rfl rfl rfl rfl rfl (opv_move rfl rfl ?_)
  refine ur_split 12 rfl (fun hc2 => ?_) (fun hc2 => ?_)
  · -- yes
    try simp only [decide_eq_true_eq, decide_eq_false_iff_not, Bool.not_eq_true', Bool.not_eq_false', beq_iff_eq, bne_iff_ne, beq_eq_false_iff_ne, bne_eq_false_iff_eq, ne_eq, Decidable.not_not] at hc2
    refine ur_pass rfl rfl rfl rfl ?_
    refine ur_pass rfl rfl rfl rfl ?_
    refine ur_pass rfl rfl rfl rfl ?_
    refine ur_pass rfl rfl rfl rfl ?_
    refine ur_opw rfl rfl rfl rfl rfl (opv_pick rfl rfl rfl ?_)
    refine ur_opw rfl rfl rfl rfl rfl (opv_move rfl rfl ?_)
    refine ur_pass rfl rfl rfl rfl ?_
    refine ur_pass rfl rfl rfl rfl ?_
    refine ur_pass rfl rfl rfl rfl ?_
    refine ur_pass rfl rfl rfl rfl ?_
    refine ur_opw rfl rfl rfl rfl rfl (opv_pick rfl rfl rfl ?_)
    refine ur_region_end ?_
    repeat refine ur_seq ?_
    refine ur_condT rfl ?_
    repeat refine ur_seq ?_
    refine ur_region rfl ?_
    refine ur_opw rfl rfl rfl rfl rfl (opv_assign rfl rfl ?_)
    refine ur_opw rfl rfl rfl rfl rfl (opv_assign rfl rfl ?_)
    refine ur_opw rfl rfl rfl rfl rfl (opv_assign rfl rfl ?_)
    refine ur_region_end ?_
    exact ur_ret3 G Tryz.func241 rfl rfl rfl rfl ⟨by unfold slNamed; first | rw [if_neg (by omega)] | rw [if_pos (by omega)], trivial⟩
  · -- no
    try simp only [decide_eq_true_eq, decide_eq_false_iff_not, Bool.not_eq_true', Bool.not_eq_false', beq_iff_eq, bne_iff_ne, beq_eq_false_iff_ne, bne_eq_false_iff_eq, ne_eq, Decidable.not_not] at hc2
    refine ur_opw rfl rfl rfl rfl rfl (opv_fieldAddr0 rfl rfl rfl ?_)
    refine ur_opw rfl rfl rfl rfl rfl (opv_load1 (by first | exact .inl (Has.has H) | exact .inr (Has.has HR)) rfl rfl rfl ?_)
    refine ur_opw rfl rfl rfl rfl rfl (opv_move rfl rfl ?_)
    refine ur_opw rfl rfl rfl rfl rfl (opv_cmp rfl rfl rfl rfl ?_)
    refine ur_opw rfl rfl rfl rfl rfl (opv_pick rfl rfl rfl ?_)
    refine ur_opw rfl rfl rfl rfl rfl (opv_move rfl rfl ?_)
    refine ur_split 18 rfl (fun hc3 => ?_) (fun hc3 => ?_)
    · -- yes
      try simp only [decide_eq_true_eq, decide_eq_false_iff_not, Bool.not_eq_true', Bool.not_eq_false', beq_iff_eq, bne_iff_ne, beq_eq_false_iff_ne, bne_eq_false_iff_eq, ne_eq, Decidable.not_not] at hc3
      refine ur_pass rfl rfl rfl rfl ?_
      refine ur_pass rfl rfl rfl rfl ?_
      refine ur_pass rfl rfl rfl rfl ?_
      refine ur_pass rfl rfl rfl rfl ?_
      refine ur_opw rfl rfl rfl rfl rfl (opv_pick rfl rfl rfl ?_)
      refine ur_region_end ?_
      repeat refine ur_seq ?_
      refine ur_condT rfl ?_
      repeat refine ur_seq ?_
      refine ur_region rfl ?_
      refine ur_opw rfl rfl rfl rfl rfl (opv_assign rfl rfl ?_)
      refine ur_opw rfl rfl rfl rfl rfl (opv_assign rfl rfl ?_)
      refine ur_opw rfl rfl rfl rfl rfl (opv_assign rfl rfl ?_)
      refine ur_region_end ?_
      exact ur_ret3 G Tryz.func241 rfl rfl rfl rfl ⟨by unfold slNamed; first | rw [if_neg (by omega)] | rw [if_pos (by omega)], trivial⟩
    · -- no
      try simp only [decide_eq_true_eq, decide_eq_false_iff_not, Bool.not_eq_true', Bool.not_eq_false', beq_iff_eq, bne_iff_ne, beq_eq_false_iff_ne, bne_eq_false_iff_eq, ne_eq, Decidable.not_not] at hc3
      refine ur_opw rfl rfl rfl rfl rfl (opv_fieldAddr0 rfl rfl rfl ?_)
      refine ur_opw rfl rfl rfl rfl rfl (opv_load1 (by first | exact .inl (Has.has H) | exact .inr (Has.has HR)) rfl rfl rfl ?_)
      refine ur_opw rfl rfl rfl rfl rfl (opv_shift (r' := shr .i64 (hdV n) 32) rfl rfl rfl rfl rfl ?_)
      refine ur_opw rfl rfl rfl rfl rfl (opv_cmp rfl rfl rfl rfl ?_)
      refine ur_opw rfl rfl rfl rfl rfl (opv_pick rfl rfl rfl ?_)
      refine ur_region_end ?_
      repeat refine ur_seq ?_
      refine ur_cond rfl (fun hc4 => ?_) (fun hc4 => ?_)
      · -- yes
        try simp only [decide_eq_true_eq, decide_eq_false_iff_not, Bool.not_eq_true', Bool.not_eq_false', beq_iff_eq, bne_iff_ne, beq_eq_false_iff_ne, bne_eq_false_iff_eq, ne_eq, Decidable.not_not] at hc4
        repeat refine ur_seq ?_
        refine ur_region rfl ?_
        refine ur_opw rfl rfl rfl rfl rfl (opv_assign rfl rfl ?_)
        refine ur_opw rfl rfl rfl rfl rfl (opv_assign rfl rfl ?_)
        refine ur_opw rfl rfl rfl rfl rfl (opv_assign rfl rfl ?_)
        refine ur_region_end ?_
        exact ur_ret3 G Tryz.func241 rfl rfl rfl rfl ⟨by unfold slNamed; first | rw [if_neg (by omega)] | rw [if_pos (by omega)], trivial⟩
      · -- no
        try simp only [decide_eq_true_eq, decide_eq_false_iff_not, Bool.not_eq_true', Bool.not_eq_false', beq_iff_eq, bne_iff_ne, beq_eq_false_iff_ne, bne_eq_false_iff_eq, ne_eq, Decidable.not_not] at hc4
        refine ur_skip ?_
        repeat refine ur_seq ?_
        refine ur_draw Tryz.mixed (by kernel_rfl) ?_
        refine ud_all [0, 1, 2, 3, 4] (by kernel_rfl) (by kernel_rfl) H fun F1 hF1 HF => ?_
        refine to_free rfl rfl rfl rfl rfl (fun _ _ hk => opv_fieldAddr0 rfl rfl rfl hk) ?_
        refine to_free rfl rfl rfl rfl rfl (fun _ _ hk => opv_load1 (by first | exact .inr (Has.has HF) | exact .inr (Has.has HR1) | exact .inr (Has.has (HR.mono hF1))) rfl rfl rfl hk) ?_
        refine to_free rfl rfl rfl rfl rfl (fun _ _ hk => opv_fieldAddr0 rfl rfl rfl hk) ?_
        refine to_free rfl rfl rfl rfl rfl (fun _ _ hk => opv_load1 (by first | exact .inr (Has.has HF) | exact .inr (Has.has HR1) | exact .inr (Has.has (HR.mono hF1))) rfl rfl rfl hk) ?_
        refine to_free rfl rfl rfl rfl rfl (fun _ _ hk => opv_assign rfl rfl hk) ?_
        refine to_end ?_
        refine ud_op 5 (by kernel_rfl) (by kernel_rfl) rfl rfl rfl rfl (opv_assign rfl rfl ?_)
        refine ud_op 6 (by kernel_rfl) (by kernel_rfl) rfl rfl rfl rfl (opv_assign rfl rfl ?_)
        refine ud_end (by kernel_rfl) ?_
        exact ur_ret3 G Tryz.func241 rfl rfl rfl rfl ⟨by unfold slNamed; first | rw [if_neg (by omega)] | rw [if_pos (by omega)], trivial⟩

theorem dr_begin {t : Int} : CallS Tryz.prog F 302 [.int .i64 t].toArray h fun v h' => v = .int .i64 (drBegin t) ∧ Own [] h' := by
  have H : Own [] h := trivial
  refine callS_intro Tryz.func302 rfl rfl rfl fun C G => ?_
  repeat refine ur_seq ?_
  refine ur_region rfl ?_
  refine ur_opw rfl rfl rfl rfl rfl (opv_assign rfl rfl ?_)
  refine ur_region_end ?_
  repeat refine ur_seq ?_
  refine ur_region rfl ?_
  refine ur_opw rfl rfl rfl rfl rfl (opv_move rfl rfl ?_)
  refine ur_opw rfl rfl rfl rfl rfl (opv_arith rfl rfl rfl rfl (by first | exact wi (by omega) | rfl) ?_)
  refine ur_opw rfl rfl rfl rfl rfl (opv_arith rfl rfl rfl rfl (by first | exact wi (by omega) | rfl) ?_)
  refine ur_opw rfl rfl rfl rfl rfl (opv_convert rfl rfl rfl ?_)
  refine ur_opw rfl rfl rfl rfl rfl (opv_convert rfl rfl rfl ?_)
  refine ur_opw rfl rfl rfl rfl rfl (opv_assign rfl rfl ?_)
  refine ur_region_end ?_
  exact ur_ret1 G Tryz.func302 rfl rfl ⟨rfl, trivial⟩
end Go.Proofs
