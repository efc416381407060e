/- The laws' own small functions. -/
import Derived.Test.YtnfcoikbkmhggaaGreatSolo
set_option linter.all false
set_option linter.unusedVariables false
set_option linter.unusedSimpArgs false
namespace Go.Proofs
open Go.BL
variable {F h : Hp} {c : Cf} {A : CA} {L : List HProp}

theorem lw_great  : CallS Tryz.prog F 22 [.agg (cfv c A).toArray].toArray h fun v h' => v = .bool (decide (c.parents.length > 100 ∨ c.limits.length > 100)) := by
  refine callS_intro Tryz.func22 rfl rfl rfl fun C G => ?_
  have H : Own [] h := trivial
  repeat refine ur_seq ?_
  refine ur_region rfl ?_
  refine ur_opw rfl rfl rfl rfl rfl (opv_box H rfl rfl fun b1 h hb1 H => ?_)
  refine ur_opw rfl rfl rfl rfl rfl (opv_assign rfl rfl ?_)
  refine ur_region_end ?_
  repeat refine ur_seq ?_
  refine ur_region rfl ?_
  refine ur_opw rfl rfl rfl rfl rfl (opv_fieldAddr0 rfl rfl rfl ?_)
  refine ur_opw rfl rfl rfl rfl rfl (opv_load1 (by first | exact .inl (Has.has H) | exact .inr (Has.has HR)) rfl rfl rfl ?_)
  refine ur_opw rfl rfl rfl rfl rfl (opv_len rfl rfl ?_)
  refine ur_opw rfl rfl rfl rfl rfl (opv_cmp rfl rfl rfl rfl ?_)
  refine ur_opw rfl rfl rfl rfl rfl (opv_move rfl rfl ?_)
  refine ur_split 7 rfl (fun hc2 => ?_) (fun hc2 => ?_)
  · -- yes
    try simp only [decide_eq_true_eq, decide_eq_false_iff_not, Bool.not_eq_true', Bool.not_eq_false', beq_iff_eq, bne_iff_ne, beq_eq_false_iff_ne, bne_eq_false_iff_eq, ne_eq, Decidable.not_not] at hc2
    refine ur_pass rfl rfl rfl rfl ?_
    refine ur_pass rfl rfl rfl rfl ?_
    refine ur_pass rfl rfl rfl rfl ?_
    refine ur_pass rfl rfl rfl rfl ?_
    refine ur_opw rfl rfl rfl rfl rfl (opv_pick rfl rfl rfl ?_)
    refine ur_opw rfl rfl rfl rfl rfl (opv_assign rfl rfl ?_)
    refine ur_region_end ?_
    exact ur_ret1 G Tryz.func22 rfl rfl (congrArg Value.bool (by by_cases q : c.parents.length > 100 <;> by_cases q2 : c.limits.length > 100 <;> simp [q, q2] <;> omega))
  · -- no
    try simp only [decide_eq_true_eq, decide_eq_false_iff_not, Bool.not_eq_true', Bool.not_eq_false', beq_iff_eq, bne_iff_ne, beq_eq_false_iff_ne, bne_eq_false_iff_eq, ne_eq, Decidable.not_not] at hc2
    refine ur_opw rfl rfl rfl rfl rfl (opv_fieldAddr0 rfl rfl rfl ?_)
    refine ur_opw rfl rfl rfl rfl rfl (opv_load1 (by first | exact .inl (Has.has H) | exact .inr (Has.has HR)) rfl rfl rfl ?_)
    refine ur_opw rfl rfl rfl rfl rfl (opv_len rfl rfl ?_)
    refine ur_opw rfl rfl rfl rfl rfl (opv_cmp rfl rfl rfl rfl ?_)
    refine ur_opw rfl rfl rfl rfl rfl (opv_pick rfl rfl rfl ?_)
    refine ur_opw rfl rfl rfl rfl rfl (opv_assign rfl rfl ?_)
    refine ur_region_end ?_
    exact ur_ret1 G Tryz.func22 rfl rfl (congrArg Value.bool (by by_cases q : c.parents.length > 100 <;> by_cases q2 : c.limits.length > 100 <;> simp [q, q2] <;> omega))

theorem lw_in {n a b : Int} : CallS Tryz.prog F 65 [.int .i64 n, .int .i64 a, .int .i64 b].toArray h fun v h' => v = .bool (decide (a ≤ n ∧ n ≤ b)) := by
  refine callS_intro Tryz.func65 rfl rfl rfl fun C G => ?_
  have H : Own [] h := trivial
  repeat refine ur_seq ?_
  refine ur_region rfl ?_
  refine ur_opw rfl rfl rfl rfl rfl (opv_assign rfl rfl ?_)
  refine ur_region_end ?_
  repeat refine ur_seq ?_
  refine ur_region rfl ?_
  refine ur_opw rfl rfl rfl rfl rfl (opv_move rfl rfl ?_)
  refine ur_opw rfl rfl rfl rfl rfl (opv_move rfl rfl ?_)
  refine ur_opw rfl rfl rfl rfl rfl (opv_cmp rfl rfl rfl rfl ?_)
  refine ur_opw rfl rfl rfl rfl rfl (opv_move rfl rfl ?_)
  refine ur_split 10 rfl (fun hc1 => ?_) (fun hc1 => ?_)
  · -- yes
    try simp only [decide_eq_true_eq, decide_eq_false_iff_not, Bool.not_eq_true', Bool.not_eq_false', beq_iff_eq, bne_iff_ne, beq_eq_false_iff_ne, bne_eq_false_iff_eq, ne_eq, Decidable.not_not] at hc1
    refine ur_opw rfl rfl rfl rfl rfl (opv_move rfl rfl ?_)
    refine ur_opw rfl rfl rfl rfl rfl (opv_move rfl rfl ?_)
    refine ur_opw rfl rfl rfl rfl rfl (opv_cmp rfl rfl rfl rfl ?_)
    refine ur_opw rfl rfl rfl rfl rfl (opv_pick rfl rfl rfl ?_)
    refine ur_opw rfl rfl rfl rfl rfl (opv_assign rfl rfl ?_)
    refine ur_region_end ?_
    exact ur_ret1 G Tryz.func65 rfl rfl (congrArg Value.bool (by by_cases q : a ≤ n <;> by_cases q2 : n ≤ b <;> simp [q, q2] <;> omega))
  · -- no
    try simp only [decide_eq_true_eq, decide_eq_false_iff_not, Bool.not_eq_true', Bool.not_eq_false', beq_iff_eq, bne_iff_ne, beq_eq_false_iff_ne, bne_eq_false_iff_eq, ne_eq, Decidable.not_not] at hc1
    refine ur_pass rfl rfl rfl rfl ?_
    refine ur_pass rfl rfl rfl rfl ?_
    refine ur_pass rfl rfl rfl rfl ?_
    refine ur_opw rfl rfl rfl rfl rfl (opv_pick rfl rfl rfl ?_)
    refine ur_opw rfl rfl rfl rfl rfl (opv_assign rfl rfl ?_)
    refine ur_region_end ?_
    exact ur_ret1 G Tryz.func65 rfl rfl (congrArg Value.bool (by by_cases q : a ≤ n <;> by_cases q2 : n ≤ b <;> simp [q, q2] <;> omega))

def baseC : Cf := ⟨2, 2, 4, 4, 2, 3, [-1, 0, 1, 0], [20, 10, 8, 5]⟩

theorem lw_base  : CallS Tryz.prog F 63 [].toArray h fun v h' => ∃ (A : CA) (b1 b2 : Nat), v = .agg (cfv baseC A).toArray ∧ A.pa = some ⟨b1, 0, none⟩ ∧ A.la = some ⟨b2, 0, none⟩ ∧ Own [pt b1 (.cells (ints baseC.parents).toArray 3 (0, 0)), pt b2 (.cells (ints baseC.limits).toArray 3 (0, 0))] h' := by
  refine callS_intro Tryz.func63 rfl rfl rfl fun C G => ?_
  have H : Own [] h := trivial
  repeat refine ur_seq ?_
  refine ur_region rfl ?_
  refine ur_opw rfl rfl rfl rfl rfl (opv_alloc H rfl fun b1 h hb1 H => ?_)
  refine ur_region_end ?_
  repeat refine ur_seq ?_
  refine ur_region rfl ?_
  refine ur_opw rfl rfl rfl rfl rfl (opv_buildSlice H rfl rfl rfl rfl rfl fun b2 h hb2 H => ?_)
  refine ur_opw rfl rfl rfl rfl rfl (opv_buildSlice H rfl rfl rfl rfl rfl fun b3 h hb3 H => ?_)
  refine ur_opw rfl rfl rfl rfl rfl (opv_build rfl rfl ?_)
  refine ur_opw0 rfl rfl rfl rfl (opv_store H rfl rfl rfl rfl rfl rfl rfl fun h H => ?_)
  refine ur_region_end ?_
  exact ur_retA G H Tryz.func63 rfl rfl ⟨⟨some ⟨b2, 0, none⟩, 4, some ⟨b3, 0, none⟩, 4⟩, b2, b3, rfl, rfl, rfl, H.bring [1, 0] |>.keep [0, 0]⟩

theorem sd_busy_out {sb : Nat} {i : Int} {bs : List Nat} {s : Sd} (hi : i < 0 ∨ (s.ths.length : Int) ≤ i) (H : Own [SdR sb A bs s] h) : CallS Tryz.prog F 31 [.pointer (some ⟨sb, 0, none⟩), .int .i64 i].toArray h fun v h' => v = .bool false ∧ Own [SdR sb A bs s] h' := by
  refine callS_intro Tryz.func31 rfl rfl rfl fun C G => ?_
  obtain ⟨mb, ta, tc, ea, ec, hbl, H⟩ := SdR.open H
  repeat refine ur_seq ?_
  refine ur_region rfl ?_
  refine ur_opw rfl rfl rfl rfl rfl (opv_assign rfl rfl ?_)
  refine ur_region_end ?_
  repeat refine ur_seq ?_
  refine ur_region rfl ?_
  refine ur_opw rfl rfl rfl rfl rfl (opv_move rfl rfl ?_)
  refine ur_opw rfl rfl rfl rfl rfl (opv_cmp rfl rfl rfl rfl ?_)
  refine ur_opw rfl rfl rfl rfl rfl (opv_move rfl rfl ?_)
  refine ur_split 7 rfl (fun hc1 => ?_) (fun hc1 => ?_)
  · -- yes
    try simp only [decide_eq_true_eq, decide_eq_false_iff_not, Bool.not_eq_true', Bool.not_eq_false', beq_iff_eq, bne_iff_ne, beq_eq_false_iff_ne, bne_eq_false_iff_eq, ne_eq, Decidable.not_not] at hc1
    refine ur_opw rfl rfl rfl rfl rfl (opv_move rfl rfl ?_)
    refine ur_opw rfl rfl rfl rfl rfl (opv_move rfl rfl ?_)
    refine ur_opw rfl rfl rfl rfl rfl (opv_nilCheck rfl rfl ?_)
    refine ur_opw rfl rfl rfl rfl rfl (opv_fieldAddr0 rfl rfl rfl ?_)
    refine ur_opw rfl rfl rfl rfl rfl (opv_load1 (by first | exact .inl (Has.has H) | exact .inr (Has.has HR)) rfl rfl rfl ?_)
    refine ur_opw rfl rfl rfl rfl rfl (opv_len rfl rfl ?_)
    refine ur_opw rfl rfl rfl rfl rfl (opv_cmp rfl rfl rfl rfl ?_)
    refine ur_opw rfl rfl rfl rfl rfl (opv_pick rfl rfl rfl ?_)
    refine ur_opw rfl rfl rfl rfl rfl (opv_move rfl rfl ?_)
    refine ur_split 16 rfl (fun hc2 => ?_) (fun hc2 => ?_)
    · -- yes
      try simp only [decide_eq_true_eq, decide_eq_false_iff_not, Bool.not_eq_true', Bool.not_eq_false', beq_iff_eq, bne_iff_ne, beq_eq_false_iff_ne, bne_eq_false_iff_eq, ne_eq, Decidable.not_not] at hc2
      refine ur_opw rfl rfl rfl rfl rfl (opv_move rfl rfl ?_)
      refine ur_opw rfl rfl rfl rfl rfl (opv_nilCheck rfl rfl ?_)
      refine ur_opw rfl rfl rfl rfl rfl (opv_fieldAddr0 rfl rfl rfl ?_)
      refine ur_opw rfl rfl rfl rfl rfl (opv_load1 (by first | exact .inl (Has.has H) | exact .inr (Has.has HR)) rfl rfl rfl ?_)
      refine ur_opw rfl rfl rfl rfl rfl (opv_move rfl rfl ?_)
      exfalso; omega
    · -- no
      try simp only [decide_eq_true_eq, decide_eq_false_iff_not, Bool.not_eq_true', Bool.not_eq_false', beq_iff_eq, bne_iff_ne, beq_eq_false_iff_ne, bne_eq_false_iff_eq, ne_eq, Decidable.not_not] at hc2
      refine ur_pass rfl rfl rfl rfl ?_
      refine ur_pass rfl rfl rfl rfl ?_
      refine ur_pass rfl rfl rfl rfl ?_
      refine ur_pass rfl rfl rfl rfl ?_
      refine ur_pass rfl rfl rfl rfl ?_
      refine ur_pass rfl rfl rfl rfl ?_
      refine ur_pass rfl rfl rfl rfl ?_
      refine ur_pass rfl rfl rfl rfl ?_
      refine ur_pass rfl rfl rfl rfl ?_
      refine ur_pass rfl rfl rfl rfl ?_
      refine ur_pass rfl rfl rfl rfl ?_
      refine ur_opw rfl rfl rfl rfl rfl (opv_pick rfl rfl rfl ?_)
      refine ur_opw rfl rfl rfl rfl rfl (opv_assign rfl rfl ?_)
      refine ur_region_end ?_
      exact ur_ret1 G Tryz.func31 rfl rfl ⟨rfl, Own.fold (A := SdR sb A bs s) [0, 0, 0, 0, 0] H fun h H => ⟨mb, ta, tc, ea, ec, hbl, H⟩⟩
  · -- no
    try simp only [decide_eq_true_eq, decide_eq_false_iff_not, Bool.not_eq_true', Bool.not_eq_false', beq_iff_eq, bne_iff_ne, beq_eq_false_iff_ne, bne_eq_false_iff_eq, ne_eq, Decidable.not_not] at hc1
    refine ur_pass rfl rfl rfl rfl ?_
    refine ur_pass rfl rfl rfl rfl ?_
    refine ur_pass rfl rfl rfl rfl ?_
    refine ur_pass rfl rfl rfl rfl ?_
    refine ur_pass rfl rfl rfl rfl ?_
    refine ur_pass rfl rfl rfl rfl ?_
    refine ur_pass rfl rfl rfl rfl ?_
    refine ur_opw rfl rfl rfl rfl rfl (opv_pick rfl rfl rfl ?_)
    refine ur_opw rfl rfl rfl rfl rfl (opv_move rfl rfl ?_)
    refine ur_pass rfl rfl rfl rfl ?_
    refine ur_pass rfl rfl rfl rfl ?_
    refine ur_pass rfl rfl rfl rfl ?_
    refine ur_pass rfl rfl rfl rfl ?_
    refine ur_pass rfl rfl rfl rfl ?_
    refine ur_pass rfl rfl rfl rfl ?_
    refine ur_pass rfl rfl rfl rfl ?_
    refine ur_pass rfl rfl rfl rfl ?_
    refine ur_pass rfl rfl rfl rfl ?_
    refine ur_pass rfl rfl rfl rfl ?_
    refine ur_pass rfl rfl rfl rfl ?_
    refine ur_opw rfl rfl rfl rfl rfl (opv_pick rfl rfl rfl ?_)
    refine ur_opw rfl rfl rfl rfl rfl (opv_assign rfl rfl ?_)
    refine ur_region_end ?_
    exact ur_ret1 G Tryz.func31 rfl rfl ⟨rfl, Own.fold (A := SdR sb A bs s) [0, 0, 0, 0, 0] H fun h H => ⟨mb, ta, tc, ea, ec, hbl, H⟩⟩
end Go.Proofs
