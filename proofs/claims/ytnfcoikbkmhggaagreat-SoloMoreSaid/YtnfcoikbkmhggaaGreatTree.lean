/- Package tree: contracts. -/
import Derived.Test.YtnfcoikbkmhggaaGreatPure
set_option linter.all false
set_option linter.unusedVariables false
set_option linter.unusedSimpArgs false
namespace Go.Proofs
open Go.BL
variable {F h : Hp} {c : Cf} {A : CA}

theorem sl_index {a : Option Addr} {xs : List Int} {x : Int} {k : Nat} (R : RdI F a xs) (hl : xs.length < 2 ^ 30) : CallS Tryz.prog F 111 [.slice a xs.length k, .int .i64 x].toArray h fun v h' => ∃ i : Int, v = .int .i64 i ∧ (0 ≤ i ↔ x ∈ xs) := by
  refine callS_intro Tryz.func111 rfl rfl rfl fun C G => ?_
  repeat refine ur_seq ?_
  refine ur_region rfl ?_
  refine ur_opw rfl rfl rfl rfl rfl (opv_assign rfl rfl ?_)
  refine ur_region_end ?_
  repeat refine ur_seq ?_
  refine ur_region rfl ?_
  refine ur_opw rfl rfl rfl rfl rfl (opv_move rfl rfl ?_)
  refine ur_opw rfl rfl rfl rfl rfl (opv_len rfl rfl ?_)
  refine ur_opw rfl rfl rfl rfl rfl (opv_move rfl rfl ?_)
  refine ur_region_end ?_
  repeat refine ur_seq ?_
  refine ur_block ?_
  refine ur_sub (l' := [(8, .int .i64 (0 : Nat)), (7, .int .i64 xs.length), (0, .slice a xs.length k), (1, .int .i64 x)]) ⟨rfl, rfl, rfl, rfl, trivial⟩ ?_
  refine ur_loop_inv (n := xs.length) (fun n l h => ∃ (i : Nat), l = [(8, .int .i64 (i : Nat)), (7, .int .i64 xs.length), (0, .slice a xs.length k), (1, .int .i64 x)] ∧ n + i = xs.length ∧ ∀ j < i, xs[j]? ≠ some x) ⟨0, rfl, by omega, fun j hj => by omega⟩ ?_
  rintro n ih l h ⟨i, rfl, hn, hj⟩
  repeat refine ur_seq ?_
  refine ur_region rfl ?_
  refine ur_opw rfl rfl rfl rfl rfl (opv_cmp rfl rfl rfl rfl ?_)
  refine ur_region_end ?_
  repeat refine ur_seq ?_
  refine ur_cond rfl (fun hc1 => ?_) (fun hc1 => ?_)
  · -- yes
    try simp only [decide_eq_true_eq, decide_eq_false_iff_not, Bool.not_eq_true', Bool.not_eq_false', beq_iff_eq, bne_iff_ne, beq_eq_false_iff_ne, bne_eq_false_iff_eq, ne_eq, Decidable.not_not] at hc1
    have hi : i < xs.length := by omega
    obtain ⟨y, hy⟩ : ∃ y, xs[i]? = some y := ⟨_, List.getElem?_eq_getElem hi⟩
    obtain ⟨b, off, cs, T, fr, rfl, hb, hv⟩ := R.at hy
    refine ur_skip ?_
    repeat refine ur_seq ?_
    refine ur_block ?_
    repeat refine ur_seq ?_
    refine ur_region rfl ?_
    refine ur_opw rfl rfl rfl rfl rfl (opv_move rfl rfl ?_)
    refine ur_opw rfl rfl rfl rfl rfl (opv_assign rfl rfl ?_)
    refine ur_region_end ?_
    repeat refine ur_seq ?_
    refine ur_region rfl ?_
    refine ur_opw rfl rfl rfl rfl rfl (opv_move rfl rfl ?_)
    refine ur_opw rfl rfl rfl rfl rfl (opv_move rfl rfl ?_)
    refine ur_opw rfl rfl rfl rfl rfl (opv_move rfl rfl ?_)
    refine ur_opw rfl rfl rfl rfl rfl (opv_indexAt (r := off + i) rfl rfl rfl ⟨by omega, by omega⟩ (by simp) ?_)
    refine ur_opw rfl rfl rfl rfl rfl (opv_load1 (.inr hb) rfl rfl hv ?_)
    refine ur_opw rfl rfl rfl rfl rfl (opv_cmp rfl rfl rfl rfl ?_)
    refine ur_region_end ?_
    refine ur_cond rfl (fun hc2 => ?_) (fun hc2 => ?_)
    · -- yes
      try simp only [decide_eq_true_eq, decide_eq_false_iff_not, Bool.not_eq_true', Bool.not_eq_false', beq_iff_eq, bne_iff_ne, beq_eq_false_iff_ne, bne_eq_false_iff_eq, ne_eq, Decidable.not_not] at hc2
      repeat refine ur_seq ?_
      refine ur_region rfl ?_
      refine ur_opw rfl rfl rfl rfl rfl (opv_move rfl rfl ?_)
      refine ur_opw rfl rfl rfl rfl rfl (opv_assign rfl rfl ?_)
      refine ur_region_end ?_
      exact ur_ret1 G Tryz.func111 rfl rfl ⟨i, rfl, ⟨fun _ => hc2 ▸ List.mem_of_getElem? hy, fun _ => by omega⟩⟩
    · -- no
      try simp only [decide_eq_true_eq, decide_eq_false_iff_not, Bool.not_eq_true', Bool.not_eq_false', beq_iff_eq, bne_iff_ne, beq_eq_false_iff_ne, bne_eq_false_iff_eq, ne_eq, Decidable.not_not] at hc2
      refine ur_skip ?_
      refine ur_inBlock ?_
      refine ur_region rfl ?_
      refine ur_opw rfl rfl rfl rfl rfl (opv_arith rfl rfl rfl rfl (by first | exact wi (by omega) | rfl) ?_)
      refine ur_opw rfl rfl rfl rfl rfl (opv_move rfl rfl ?_)
      refine ur_region_end ?_
      refine ur_sub (l' := [(8, .int .i64 (i + 1 : Nat)), (7, .int .i64 xs.length), (0, .slice _ xs.length k), (1, .int .i64 x)]) ⟨rfl, rfl, rfl, rfl, trivial⟩ ?_
      refine ih (n - 1) _ _ (by omega) ⟨i + 1, rfl, by omega, fun j hj2 => ?_⟩
      by_cases e : j = i
      · subst e; rw [hy]; exact fun q => hc2 (by cases q; rfl)
      · exact hj j (by omega)
  · -- no
    try simp only [decide_eq_true_eq, decide_eq_false_iff_not, Bool.not_eq_true', Bool.not_eq_false', beq_iff_eq, bne_iff_ne, beq_eq_false_iff_ne, bne_eq_false_iff_eq, ne_eq, Decidable.not_not] at hc1
    refine ur_exit rfl ?_
    repeat refine ur_seq ?_
    refine ur_region rfl ?_
    refine ur_opw rfl rfl rfl rfl rfl (opv_assign rfl rfl ?_)
    refine ur_region_end ?_
    exact ur_ret1 G Tryz.func111 rfl rfl ⟨-1, rfl, ⟨fun q => by omega, fun q => absurd (List.mem_iff_getElem?.1 q) fun ⟨j, hx⟩ => hj j (by have := (List.getElem?_eq_some_iff.1 hx).1; omega) hx⟩⟩

theorem sl_contains {a : Option Addr} {xs : List Int} {x : Int} {k : Nat} (R : RdI F a xs) (hl : xs.length < 2 ^ 30) : CallS Tryz.prog F 78 [.slice a xs.length k, .int .i64 x].toArray h fun v h' => v = .bool (decide (x ∈ xs)) := by
  refine callS_intro Tryz.func78 rfl rfl rfl fun C G => ?_
  have H : Own [] h := trivial
  repeat refine ur_seq ?_
  refine ur_region rfl ?_
  refine ur_opw rfl rfl rfl rfl rfl (opv_assign rfl rfl ?_)
  refine ur_region_end ?_
  repeat refine ur_seq ?_
  refine ur_region rfl ?_
  refine ur_opw rfl rfl rfl rfl rfl (opv_move rfl rfl ?_)
  refine ur_opw rfl rfl rfl rfl rfl (opv_move rfl rfl ?_)
  refine ur_opw rfl rfl rfl rfl rfl (opv_call rfl rfl rfl (opv_to [] [] H (fun F1 h1 hF HR1 H1 => sl_index (R.mono hF) hl) ?_))
  rintro v h1 h ⟨i, rfl, hi⟩ J
  have H := J (LN := []) trivial
  refine ur_opw rfl rfl rfl rfl rfl (opv_cmp rfl rfl rfl rfl ?_)
  refine ur_opw rfl rfl rfl rfl rfl (opv_assign rfl rfl ?_)
  refine ur_region_end ?_
  exact ur_ret1 G Tryz.func78 rfl rfl (by rw [show (decide ((0:Int) ≤ i)) = decide (x ∈ xs) from by simp [hi]])

theorem tree_leaf (o : c.Ok) (R : RdC F c A) {u : Int} : CallS Tryz.prog F 236 [.agg (cfv c A).toArray, .int .i64 u].toArray h fun v h' => v = .bool (c.leaf u) := by
  refine callS_intro Tryz.func236 rfl rfl rfl fun C G => ?_
  have H : Own [] h := trivial
  have hn := o.nodes
  repeat refine ur_seq ?_
  refine ur_region rfl ?_
  refine ur_opw rfl rfl rfl rfl rfl (opv_box H rfl rfl fun b1 h hb1 H => ?_)
  refine ur_opw rfl rfl rfl rfl rfl (opv_assign rfl rfl ?_)
  refine ur_region_end ?_
  repeat refine ur_seq ?_
  refine ur_region rfl ?_
  refine ur_opw rfl rfl rfl rfl rfl (opv_move rfl rfl ?_)
  refine ur_opw rfl rfl rfl rfl rfl (opv_cmp rfl rfl rfl rfl ?_)
  refine ur_opw rfl rfl rfl rfl rfl (opv_move rfl rfl ?_)
  refine ur_split 7 rfl (fun hc2 => ?_) (fun hc2 => ?_)
  · -- yes
    try simp only [decide_eq_true_eq, decide_eq_false_iff_not, Bool.not_eq_true', Bool.not_eq_false', beq_iff_eq, bne_iff_ne, beq_eq_false_iff_ne, bne_eq_false_iff_eq, ne_eq, Decidable.not_not] at hc2
    refine ur_opw rfl rfl rfl rfl rfl (opv_move rfl rfl ?_)
    refine ur_opw rfl rfl rfl rfl rfl (opv_fieldAddr0 rfl rfl rfl ?_)
    refine ur_opw rfl rfl rfl rfl rfl (opv_load1 (by first | exact .inl (Has.has H) | exact .inr (Has.has HR)) rfl rfl rfl ?_)
    refine ur_opw rfl rfl rfl rfl rfl (opv_len rfl rfl ?_)
    refine ur_opw rfl rfl rfl rfl rfl (opv_cmp rfl rfl rfl rfl ?_)
    refine ur_opw rfl rfl rfl rfl rfl (opv_pick rfl rfl rfl ?_)
    refine ur_opw rfl rfl rfl rfl rfl (opv_move rfl rfl ?_)
    refine ur_split 14 rfl (fun hc3 => ?_) (fun hc3 => ?_)
    · -- yes
      try simp only [decide_eq_true_eq, decide_eq_false_iff_not, Bool.not_eq_true', Bool.not_eq_false', beq_iff_eq, bne_iff_ne, beq_eq_false_iff_ne, bne_eq_false_iff_eq, ne_eq, Decidable.not_not] at hc3
      refine ur_opw rfl rfl rfl rfl rfl (opv_fieldAddr0 rfl rfl rfl ?_)
      refine ur_opw rfl rfl rfl rfl rfl (opv_load1 (by first | exact .inl (Has.has H) | exact .inr (Has.has HR)) rfl rfl rfl ?_)
      refine ur_opw rfl rfl rfl rfl rfl (opv_move rfl rfl ?_)
      refine ur_opw rfl rfl rfl rfl rfl (opv_call rfl rfl rfl (opv_to [] [] H (fun F1 h1 hF HR1 H1 => sl_contains (R.p.mono hF) (by omega)) ?_))
      rintro v h1 h ⟨rfl⟩ J
      have H := J (LN := []) trivial
      refine ur_opw rfl rfl rfl rfl rfl (opv_not rfl rfl ?_)
      refine ur_opw rfl rfl rfl rfl rfl (opv_pick rfl rfl rfl ?_)
      refine ur_opw rfl rfl rfl rfl rfl (opv_assign rfl rfl ?_)
      refine ur_region_end ?_
      exact ur_ret1 G Tryz.func236 rfl rfl (by first | (simp [Cf.leaf]; omega) | simp [Cf.leaf, *])
    · -- no
      try simp only [decide_eq_true_eq, decide_eq_false_iff_not, Bool.not_eq_true', Bool.not_eq_false', beq_iff_eq, bne_iff_ne, beq_eq_false_iff_ne, bne_eq_false_iff_eq, ne_eq, Decidable.not_not] at hc3
      refine ur_pass rfl rfl rfl rfl ?_
      refine ur_pass rfl rfl rfl rfl ?_
      refine ur_pass rfl rfl rfl rfl ?_
      refine ur_pass rfl rfl rfl rfl ?_
      refine ur_pass rfl rfl rfl rfl ?_
      refine ur_opw rfl rfl rfl rfl rfl (opv_pick rfl rfl rfl ?_)
      refine ur_opw rfl rfl rfl rfl rfl (opv_assign rfl rfl ?_)
      refine ur_region_end ?_
      exact ur_ret1 G Tryz.func236 rfl rfl (by first | (simp [Cf.leaf]; omega) | simp [Cf.leaf, *])
  · -- no
    try simp only [decide_eq_true_eq, decide_eq_false_iff_not, Bool.not_eq_true', Bool.not_eq_false', beq_iff_eq, bne_iff_ne, beq_eq_false_iff_ne, bne_eq_false_iff_eq, ne_eq, Decidable.not_not] at hc2
    refine ur_pass rfl rfl rfl rfl ?_
    refine ur_pass rfl rfl rfl rfl ?_
    refine ur_pass rfl rfl rfl rfl ?_
    refine ur_pass rfl rfl rfl rfl ?_
    refine ur_pass rfl rfl rfl rfl ?_
    refine ur_opw rfl rfl rfl rfl rfl (opv_pick rfl rfl rfl ?_)
    refine ur_opw rfl rfl rfl rfl rfl (opv_move rfl rfl ?_)
    refine ur_pass rfl rfl rfl rfl ?_
    refine ur_pass rfl rfl rfl rfl ?_
    refine ur_pass rfl rfl rfl rfl ?_
    refine ur_pass rfl rfl rfl rfl ?_
    refine ur_pass rfl rfl rfl rfl ?_
    refine ur_opw rfl rfl rfl rfl rfl (opv_pick rfl rfl rfl ?_)
    refine ur_opw rfl rfl rfl rfl rfl (opv_assign rfl rfl ?_)
    refine ur_region_end ?_
    exact ur_ret1 G Tryz.func236 rfl rfl (by first | (simp [Cf.leaf]; omega) | simp [Cf.leaf, *])

theorem tree_above1 (o : c.Ok) (R : RdC F c A) {u0 : Int} {y : Value} {nb cb : Nat} {I : Nat → HProp} {J : HProp} (hy : ∀ i x, (c.path u0)[i]? = some x → Ys Tryz.prog F y (.int .i64 x) (I i) (yB (I (i + 1)) J)) (H : Own [I 0, pt nb (.cells [.int .i64 u0].toArray 3 (0, 0)), pt cb (.cells (cfv c A).toArray 24 (0, 0))] h) : CallS Tryz.prog F 196 [y, .pointer (some ⟨nb, 0, none⟩), .pointer (some ⟨cb, 0, none⟩)].toArray h fun v h' => v = .tuple #[] ∧ ∃ b, Own [yB (I (c.path u0).length) J b, pt nb (.cells [.int .i64 u0].toArray 3 (0, 0)), pt cb (.cells (cfv c A).toArray 24 (0, 0))] h' := by
  refine callS_intro Tryz.func196 rfl rfl rfl fun C G => ?_
  have hn := o.nodes
  repeat refine ur_seq ?_
  refine ur_region rfl ?_
  refine ur_opw rfl rfl rfl rfl rfl (opv_load1 (by first | exact .inl (Has.has H) | exact .inr (Has.has HR)) rfl rfl rfl ?_)
  refine ur_opw rfl rfl rfl rfl rfl (opv_fieldAddr0 rfl rfl rfl ?_)
  refine ur_opw rfl rfl rfl rfl rfl (opv_load1 (by first | exact .inl (Has.has H) | exact .inr (Has.has HR)) rfl rfl rfl ?_)
  refine ur_opw rfl rfl rfl rfl rfl (opv_len rfl rfl ?_)
  refine ur_opw rfl rfl rfl rfl rfl (opv_cmp rfl rfl rfl rfl ?_)
  refine ur_region_end ?_
  repeat refine ur_seq ?_
  refine ur_cond rfl (fun hc1 => ?_) (fun hc1 => ?_)
  · -- yes
    try simp only [decide_eq_true_eq, decide_eq_false_iff_not, Bool.not_eq_true', Bool.not_eq_false', beq_iff_eq, bne_iff_ne, beq_eq_false_iff_ne, bne_eq_false_iff_eq, ne_eq, Decidable.not_not] at hc1
    have e : c.path u0 = [] := by unfold Cf.path; rw [if_pos (by omega)]
    exact ur_ret0 G Tryz.func196 rfl ⟨rfl, true, by rw [e]; exact H⟩
  · -- no
    try simp only [decide_eq_true_eq, decide_eq_false_iff_not, Bool.not_eq_true', Bool.not_eq_false', beq_iff_eq, bne_iff_ne, beq_eq_false_iff_ne, bne_eq_false_iff_eq, ne_eq, Decidable.not_not] at hc1
    refine ur_skip ?_
    repeat refine ur_seq ?_
    refine ur_region rfl ?_
    refine ur_opw rfl rfl rfl rfl rfl (opv_load1 (by first | exact .inl (Has.has H) | exact .inr (Has.has HR)) rfl rfl rfl ?_)
    refine ur_opw rfl rfl rfl rfl rfl (opv_assign rfl rfl ?_)
    refine ur_region_end ?_
    refine ur_block ?_
    refine ur_sub (l' := [(4, .int .i64 (u0)), (0, y), (1, .pointer (some ⟨nb, 0, none⟩)), (2, .pointer (some ⟨cb, 0, none⟩))]) ⟨rfl, rfl, rfl, rfl, trivial⟩ ?_
    refine ur_loop_inv (n := 13) (fun n l h => ∃ (u : Int) (i k : Nat), l = [(4, .int .i64 (u)), (0, y), (1, .pointer (some ⟨nb, 0, none⟩)), (2, .pointer (some ⟨cb, 0, none⟩))] ∧ n = k ∧ u < k ∧ u < c.parents.length ∧ i ≤ (c.path u0).length ∧ (c.path u0).drop i = pathN k c.parents u ∧ Own [I i, pt nb (.cells [.int .i64 u0].toArray 3 (0, 0)), pt cb (.cells (cfv c A).toArray 24 (0, 0))] h) ⟨u0, 0, 13, rfl, rfl, by omega, by omega, by omega, by unfold Cf.path; rw [if_neg (by omega)]; rfl, H⟩ ?_
    rintro n ih l h ⟨u, i, k, rfl, rfl, huk, hul, hil, hd, H⟩
    repeat refine ur_seq ?_
    refine ur_region rfl ?_
    refine ur_opw rfl rfl rfl rfl rfl (opv_move rfl rfl ?_)
    refine ur_opw rfl rfl rfl rfl rfl (opv_cmp rfl rfl rfl rfl ?_)
    refine ur_region_end ?_
    repeat refine ur_seq ?_
    refine ur_cond rfl (fun hc2 => ?_) (fun hc2 => ?_)
    · -- yes
      try simp only [decide_eq_true_eq, decide_eq_false_iff_not, Bool.not_eq_true', Bool.not_eq_false', beq_iff_eq, bne_iff_ne, beq_eq_false_iff_ne, bne_eq_false_iff_eq, ne_eq, Decidable.not_not] at hc2
      obtain ⟨hx, hi2, hd2⟩ := pathN_step hd (by omega) huk
      refine ur_skip ?_
      repeat refine ur_seq ?_
      refine ur_block ?_
      repeat refine ur_seq ?_
      refine ur_region rfl ?_
      refine ur_opw rfl rfl rfl rfl rfl (opv_move rfl rfl ?_)
      refine ur_opw rfl rfl rfl rfl rfl (opv_move rfl rfl ?_)
      refine ur_opw rfl rfl rfl rfl rfl (opv_yield (hy i u hx) H [0] rfl rfl rfl fun b h H => ?_)
      refine ur_opw rfl rfl rfl rfl rfl (opv_not rfl rfl ?_)
      refine ur_region_end ?_
      refine ur_cond rfl (fun hc3 => ?_) (fun hc3 => ?_)
      · -- yes
        try simp only [decide_eq_true_eq, decide_eq_false_iff_not, Bool.not_eq_true', Bool.not_eq_false', beq_iff_eq, bne_iff_ne, beq_eq_false_iff_ne, bne_eq_false_iff_eq, ne_eq, Decidable.not_not] at hc3
        have hb : b = false := by simpa using hc3
        subst hb
        exact ur_ret0 G Tryz.func196 rfl ⟨rfl, false, H⟩
      · -- no
        try simp only [decide_eq_true_eq, decide_eq_false_iff_not, Bool.not_eq_true', Bool.not_eq_false', beq_iff_eq, bne_iff_ne, beq_eq_false_iff_ne, bne_eq_false_iff_eq, ne_eq, Decidable.not_not] at hc3
        have hb : b = true := by simpa using hc3
        subst hb
        obtain ⟨p, hp, hp1, hp2⟩ := o.parent (u := u) (by omega) hul
        obtain ⟨pb, poff, cs, T, fr, ea, hb, hv⟩ := R.p.at hp
        have hH : Own [I (i + 1), pt nb (.cells [.int .i64 u0].toArray 3 (0, 0)), pt cb (.cells (cfv c A).toArray 24 (0, 0))] h := H
        clear H
        have H := hH
        clear hH
        refine ur_skip ?_
        refine ur_inBlock ?_
        refine ur_region rfl ?_
        refine ur_opw rfl rfl rfl rfl rfl (opv_fieldAddr0 rfl rfl rfl ?_)
        refine ur_opw rfl rfl rfl rfl rfl (opv_load1 (by first | exact .inl (Has.has H) | exact .inr (Has.has HR)) rfl rfl (show (cfv c A)[6]? = some (.slice (some ⟨pb, poff, none⟩) c.parents.length A.pc) from by simp [cfv, ea]) ?_)
        refine ur_opw rfl rfl rfl rfl rfl (opv_move rfl rfl ?_)
        refine ur_opw rfl rfl rfl rfl rfl (opv_indexAt (r := poff + u.toNat) rfl rfl rfl ⟨by omega, by omega⟩ (by simp) ?_)
        refine ur_opw rfl rfl rfl rfl rfl (opv_load1 (.inr hb) rfl rfl hv ?_)
        refine ur_opw rfl rfl rfl rfl rfl (opv_assign rfl rfl ?_)
        refine ur_region_end ?_
        refine ur_sub (l' := [(4, .int .i64 (p)), (0, y), (1, .pointer (some ⟨nb, 0, none⟩)), (2, .pointer (some ⟨cb, 0, none⟩))]) ⟨rfl, rfl, rfl, rfl, trivial⟩ ?_
        refine ih (n - 1) _ _ (by omega) ⟨p, i + 1, n - 1, rfl, rfl, by omega, by omega, by omega, by rw [hd2, List.getD_eq_getElem?_getD, hp]; rfl, H⟩
    · -- no
      try simp only [decide_eq_true_eq, decide_eq_false_iff_not, Bool.not_eq_true', Bool.not_eq_false', beq_iff_eq, bne_iff_ne, beq_eq_false_iff_ne, bne_eq_false_iff_eq, ne_eq, Decidable.not_not] at hc2
      refine ur_exit rfl ?_
      exact ur_end0 G Tryz.func196 rfl ⟨rfl, true, by have e := pathN_end hd (by omega) hil; rw [← e]; exact H⟩

theorem tree_above {u0 : Int} : CallS Tryz.prog F 147 [.agg (cfv c A).toArray, .int .i64 u0].toArray h fun v h' => ∃ nb cb, v = .func (.func 196) #[] [.pointer (some ⟨nb, 0, none⟩), .pointer (some ⟨cb, 0, none⟩)].toArray ∧ Own [pt nb (.cells [.int .i64 u0].toArray 3 (0, 0)), pt cb (.cells (cfv c A).toArray 24 (0, 0))] h' := by
  refine callS_intro Tryz.func147 rfl rfl rfl fun C G => ?_
  have H : Own [] h := trivial
  repeat refine ur_seq ?_
  refine ur_region rfl ?_
  refine ur_opw rfl rfl rfl rfl rfl (opv_box H rfl rfl fun b1 h hb1 H => ?_)
  refine ur_opw rfl rfl rfl rfl rfl (opv_box H rfl rfl fun b2 h hb2 H => ?_)
  refine ur_opw rfl rfl rfl rfl rfl (opv_assign rfl rfl ?_)
  refine ur_region_end ?_
  repeat refine ur_seq ?_
  refine ur_region rfl ?_
  refine ur_opw rfl rfl rfl rfl rfl (opv_makeFunc rfl rfl rfl ?_)
  refine ur_opw rfl rfl rfl rfl rfl (opv_assign rfl rfl ?_)
  refine ur_region_end ?_
  exact ur_ret1 G Tryz.func147 rfl rfl ⟨_, _, rfl, H⟩

theorem tree_path (o : c.Ok) (R : RdC F c A) {u0 : Int} : CallS Tryz.prog F 102 [.agg (cfv c A).toArray, .int .i64 u0].toArray h fun v h' => ∃ a k, v = .slice a (c.path u0).length k ∧ Own [SlR 3 1 a (c.path u0).length k (ints (c.path u0))] h' := by
  refine callS_intro Tryz.func102 rfl rfl rfl fun C G => ?_
  have hn := o.nodes
  have hpl := c.path_length u0
  have H : Own [] h := trivial
  repeat refine ur_seq ?_
  refine ur_region rfl ?_
  refine ur_opw rfl rfl rfl rfl rfl (opv_box H rfl rfl fun b1 h hb1 H => ?_)
  refine ur_opw rfl rfl rfl rfl rfl (opv_assign rfl rfl ?_)
  refine ur_region_end ?_
  repeat refine ur_seq ?_
  refine ur_region rfl ?_
  refine ur_opw rfl rfl rfl rfl rfl (opv_alloc H rfl fun b2 h hb2 H => ?_)
  refine ur_region_end ?_
  repeat refine ur_seq ?_
  refine ur_region rfl ?_
  refine ur_opw rfl rfl rfl rfl rfl (opv_loadA (by first | exact .inl (Has.has H) | exact .inr (Has.has HR)) rfl rfl ?_)
  refine ur_opw rfl rfl rfl rfl rfl (opv_move rfl rfl ?_)
  refine ur_opw rfl rfl rfl rfl rfl (opv_call rfl rfl rfl (opv_to [] [] H (fun F1 h1 hF HR1 H1 => tree_above) ?_))
  rintro v h1 h ⟨nb, cb, rfl, H1⟩ J
  have H := J H1
  refine ur_region_end ?_
  repeat refine ur_seq ?_
  refine ur_block ?_
  have H := Own.addNil 3 1 H
  refine ur_rangeFunc H G.ro rfl fun lb db tmps h asg bd fn hasg hbd hfn hlb hdb he H => ?_
  have H := Own.fold (A := (fun (i : Nat) (h : Hp) => ∃ (a : Option Addr) (k : Nat), Own [pt lb (loopO .ready none fn tmps #[10] asg bd db), pt b2 (.cells [Value.slice a i k].toArray 22 (0, 0)), SlR 3 1 a i k (ints ((c.path u0).take i))] h) 0) [0, 4, 1] H fun h H => ⟨none, 0, by simpa [ints] using H⟩
  refine opv_to [] [0, 1, 1] H (fun F1 h1 hF HR1 H1 => tree_above1 (I := (fun (i : Nat) (h : Hp) => ∃ (a : Option Addr) (k : Nat), Own [pt lb (loopO .ready none fn tmps #[10] asg bd db), pt b2 (.cells [Value.slice a i k].toArray 22 (0, 0)), SlR 3 1 a i k (ints ((c.path u0).take i))] h)) (J := fun _ => False) o (R.mono hF) ?_ H1) ?_
  · intro i x hx L h H
    obtain ⟨a, k, H⟩ := Own.ex2 H
    simp only [List.cons_append, List.nil_append] at H
    have hi := (List.getElem?_eq_some_iff.1 hx).1
    refine yield_round H (roundS_intro (he.putb (by rfl) _) fun C G hfn2 => ?_)
    subst hasg hbd
    refine ur_region rfl ?_
    refine ur_opw rfl rfl rfl rfl rfl (opv_assign rfl rfl ?_)
    refine ur_region_end ?_
    refine ur_beginRound G H fun h H => ?_
    refine ur_block ?_
    refine ur_region rfl ?_
    refine ur_opw rfl rfl rfl rfl rfl (opv_load1 (by first | exact .inl (Has.has H) | exact .inr (Has.has HR)) rfl rfl rfl ?_)
    refine ur_opw rfl rfl rfl rfl rfl (opv_move rfl rfl ?_)
    refine ur_opw rfl rfl rfl rfl rfl (opv_buildSlice H rfl rfl rfl rfl rfl fun b23 h hb23 H => ?_)
    refine ur_opw rfl rfl rfl rfl rfl (opv_append H rfl rfl (by first | exact .inl (Has.has H) | exact .inr (Has.has HR)) rfl rfl (by omega) (by omega) fun aa aac h H => ?_)
    refine ur_opw0 rfl rfl rfl rfl (opv_store H rfl rfl rfl rfl rfl rfl rfl fun h H => ?_)
    refine ur_region_end ?_
    refine ur_inBlock ?_
    exact ur_roundEnd G H fun h H => ⟨true, rfl, Own.drop [1] <| Own.fold [2, 2, 0] H fun h H => ⟨aa, aac, by
      have e : ints ((c.path u0).take (i + 1)) = ints ((c.path u0).take i) ++ [.int .i64 x] := by rw [List.take_add_one, hx]; simp [ints]
      rw [e]; exact H⟩⟩
  rintro v h1 h ⟨rfl, bb, H1⟩ J
  have H := J H1
  cases bb with
  | false => exact H.no.elim
  | true => ?_
  obtain ⟨a, k, H⟩ := Own.ex2 H
  simp only [List.cons_append, List.nil_append] at H
  refine ⟨none, _, .ready H, fun h H => ?_⟩
  refine ur_inBlock ?_
  repeat refine ur_seq ?_
  refine ur_region rfl ?_
  refine ur_opw rfl rfl rfl rfl rfl (opv_load1 (by first | exact .inl (Has.has H) | exact .inr (Has.has HR)) rfl rfl rfl ?_)
  refine ur_opw rfl rfl rfl rfl rfl (opv_assign rfl rfl ?_)
  refine ur_region_end ?_
  rw [List.take_length] at H
  exact ur_retD1 G H Tryz.func102 rfl rfl fun h H => ⟨a, k, rfl, H.keep [1]⟩

theorem tree_depth (o : c.Ok) (R : RdC F c A) : CallS Tryz.prog F 66 [.agg (cfv c A).toArray].toArray h fun v h' => v = .int .i64 c.depth := by
  refine callS_intro Tryz.func66 rfl rfl rfl fun C G => ?_
  have hn := o.nodes
  have H : Own [] h := trivial
  repeat refine ur_seq ?_
  refine ur_region rfl ?_
  refine ur_opw rfl rfl rfl rfl rfl (opv_box H rfl rfl fun b1 h hb1 H => ?_)
  refine ur_opw rfl rfl rfl rfl rfl (opv_assign rfl rfl ?_)
  refine ur_region_end ?_
  repeat refine ur_seq ?_
  refine ur_region rfl ?_
  refine ur_opw rfl rfl rfl rfl rfl (opv_assign rfl rfl ?_)
  refine ur_region_end ?_
  repeat refine ur_seq ?_
  refine ur_region rfl ?_
  refine ur_opw rfl rfl rfl rfl rfl (opv_fieldAddr0 rfl rfl rfl ?_)
  refine ur_opw rfl rfl rfl rfl rfl (opv_load1 (by first | exact .inl (Has.has H) | exact .inr (Has.has HR)) rfl rfl rfl ?_)
  refine ur_opw rfl rfl rfl rfl rfl (opv_len rfl rfl ?_)
  refine ur_opw rfl rfl rfl rfl rfl (opv_move rfl rfl ?_)
  refine ur_region_end ?_
  repeat refine ur_seq ?_
  refine ur_block ?_
  refine ur_sub (l' := [(8, .int .i64 (0 : Nat)), (7, .int .i64 c.parents.length), (3, .int .i64 ((List.range (0)).foldl (fun (d : Int) (v : Nat) => if ((c.path (v : Int)).length : Int) > d then ((c.path (v : Int)).length : Int) else d) 0)), (1, .pointer (some ⟨b1, 0, none⟩))]) ⟨rfl, rfl, rfl, rfl, trivial⟩ ?_
  refine ur_loop_inv (n := c.parents.length) (fun n l h => ∃ (i : Nat), l = [(8, .int .i64 (i : Nat)), (7, .int .i64 c.parents.length), (3, .int .i64 ((List.range (i)).foldl (fun (d : Int) (v : Nat) => if ((c.path (v : Int)).length : Int) > d then ((c.path (v : Int)).length : Int) else d) 0)), (1, .pointer (some ⟨b1, 0, none⟩))] ∧ n + i = c.parents.length ∧ Own [pt b1 (.cells (cfv c A).toArray 24 (0, 0))] h) ⟨0, rfl, by omega, H⟩ ?_
  rintro n ih l h ⟨i, rfl, hn2, H⟩
  repeat refine ur_seq ?_
  refine ur_region rfl ?_
  refine ur_opw rfl rfl rfl rfl rfl (opv_cmp rfl rfl rfl rfl ?_)
  refine ur_region_end ?_
  repeat refine ur_seq ?_
  refine ur_cond rfl (fun hc2 => ?_) (fun hc2 => ?_)
  · -- yes
    try simp only [decide_eq_true_eq, decide_eq_false_iff_not, Bool.not_eq_true', Bool.not_eq_false', beq_iff_eq, bne_iff_ne, beq_eq_false_iff_ne, bne_eq_false_iff_eq, ne_eq, Decidable.not_not] at hc2
    have hpl := c.path_length i
    refine ur_skip ?_
    repeat refine ur_seq ?_
    refine ur_block ?_
    repeat refine ur_seq ?_
    refine ur_region rfl ?_
    refine ur_opw rfl rfl rfl rfl rfl (opv_move rfl rfl ?_)
    refine ur_opw rfl rfl rfl rfl rfl (opv_assign rfl rfl ?_)
    refine ur_region_end ?_
    refine ur_region rfl ?_
    refine ur_opw rfl rfl rfl rfl rfl (opv_move rfl rfl ?_)
    refine ur_opw rfl rfl rfl rfl rfl (opv_loadA (by first | exact .inl (Has.has H) | exact .inr (Has.has HR)) rfl rfl ?_)
    refine ur_opw rfl rfl rfl rfl rfl (opv_move rfl rfl ?_)
    refine ur_opw rfl rfl rfl rfl rfl (opv_call rfl rfl rfl (opv_to [] [] H (fun F1 h1 hF HR1 H1 => tree_path o (R.mono hF)) ?_))
    rintro v h1 h ⟨a, k, rfl, H1⟩ J
    have H := J H1
    refine ur_opw rfl rfl rfl rfl rfl (opv_len rfl rfl ?_)
    refine ur_opw rfl rfl rfl rfl rfl (opv_max rfl rfl ?_)
    refine ur_opw rfl rfl rfl rfl rfl (opv_assign rfl rfl ?_)
    refine ur_region_end ?_
    refine ur_inBlock ?_
    refine ur_region rfl ?_
    refine ur_opw rfl rfl rfl rfl rfl (opv_arith rfl rfl rfl rfl (by first | exact wi (by omega) | rfl) ?_)
    refine ur_opw rfl rfl rfl rfl rfl (opv_move rfl rfl ?_)
    refine ur_region_end ?_
    have hi : i < c.parents.length := by omega
    have e : ((List.range (i + 1)).foldl (fun (d : Int) (v : Nat) => if ((c.path (v : Int)).length : Int) > d then ((c.path (v : Int)).length : Int) else d) 0) = if ((c.path (i : Int)).length : Int) > ((List.range i).foldl (fun (d : Int) (v : Nat) => if ((c.path (v : Int)).length : Int) > d then ((c.path (v : Int)).length : Int) else d) 0) then ((c.path (i : Int)).length : Int) else ((List.range i).foldl (fun (d : Int) (v : Nat) => if ((c.path (v : Int)).length : Int) > d then ((c.path (v : Int)).length : Int) else d) 0) := by rw [List.range_succ, List.foldl_append]; rfl
    rw [← e]
    refine ur_sub (l' := [(8, .int .i64 (i + 1 : Nat)), (7, .int .i64 c.parents.length), (3, .int .i64 ((List.range (i + 1)).foldl (fun (d : Int) (v : Nat) => if ((c.path (v : Int)).length : Int) > d then ((c.path (v : Int)).length : Int) else d) 0)), (1, .pointer (some ⟨b1, 0, none⟩))]) ⟨rfl, rfl, rfl, rfl, trivial⟩ ?_
    refine ih (n - 1) _ _ (by omega) ⟨i + 1, rfl, by omega, H.keep [1]⟩
  · -- no
    try simp only [decide_eq_true_eq, decide_eq_false_iff_not, Bool.not_eq_true', Bool.not_eq_false', beq_iff_eq, bne_iff_ne, beq_eq_false_iff_ne, bne_eq_false_iff_eq, ne_eq, Decidable.not_not] at hc2
    refine ur_exit rfl ?_
    repeat refine ur_seq ?_
    refine ur_region rfl ?_
    refine ur_opw rfl rfl rfl rfl rfl (opv_move rfl rfl ?_)
    refine ur_opw rfl rfl rfl rfl rfl (opv_assign rfl rfl ?_)
    refine ur_region_end ?_
    have hi : i = c.parents.length := by omega
    subst hi
    exact ur_ret1 G Tryz.func66 rfl rfl rfl

theorem tree_under (o : c.Ok) (R : RdC F c A) {u0 u1 : Int} : CallS Tryz.prog F 215 [.agg (cfv c A).toArray, .int .i64 u0, .int .i64 u1].toArray h fun v h' => v = .bool (c.under u0 u1) := by
  refine callS_intro Tryz.func215 rfl rfl rfl fun C G => ?_
  have hn := o.nodes
  have hpl := c.path_length u0
  have H : Own [] h := trivial
  repeat refine ur_seq ?_
  refine ur_region rfl ?_
  refine ur_opw rfl rfl rfl rfl rfl (opv_box H rfl rfl fun b1 h hb1 H => ?_)
  refine ur_opw rfl rfl rfl rfl rfl (opv_box H rfl rfl fun b2 h hb2 H => ?_)
  refine ur_opw rfl rfl rfl rfl rfl (opv_alloc H rfl fun b3 h hb3 H => ?_)
  refine ur_region_end ?_
  repeat refine ur_seq ?_
  refine ur_region rfl ?_
  refine ur_opw rfl rfl rfl rfl rfl (opv_loadA (by first | exact .inl (Has.has H) | exact .inr (Has.has HR)) rfl rfl ?_)
  refine ur_opw rfl rfl rfl rfl rfl (opv_move rfl rfl ?_)
  refine ur_opw rfl rfl rfl rfl rfl (opv_call rfl rfl rfl (opv_to [] [] H (fun F1 h1 hF HR1 H1 => tree_above) ?_))
  rintro v h1 h ⟨nb, cb, rfl, H1⟩ J
  have H := J H1
  refine ur_region_end ?_
  repeat refine ur_seq ?_
  refine ur_block ?_
  refine ur_rangeFunc H G.ro rfl fun lb db tmps h asg bd fn hasg hbd hfn hlb hdb he H => ?_
  have H := Own.fold (A := (fun (i : Nat) (h : Hp) => ∃ (_ : u1 ∉ (c.path u0).take i), Own [pt lb (loopO .ready none fn tmps #[11] asg bd db), pt b2 (.cells [Value.int .i64 u1].toArray 3 (0, 0)), pt b3 (.cells [Value.bool false].toArray 4 (0, 0))] h) 0) [0, 4, 3] H fun h H => ⟨by simp, H⟩
  refine opv_to [] [0, 1, 1] H (fun F1 h1 hF HR1 H1 => tree_above1 (I := (fun (i : Nat) (h : Hp) => ∃ (_ : u1 ∉ (c.path u0).take i), Own [pt lb (loopO .ready none fn tmps #[11] asg bd db), pt b2 (.cells [Value.int .i64 u1].toArray 3 (0, 0)), pt b3 (.cells [Value.bool false].toArray 4 (0, 0))] h)) (J := (fun (h : Hp) => ∃ (_ : u1 ∈ c.path u0), Own [pt lb (loopO .done (some .ret) fn tmps #[11] asg bd db), pt b2 (.cells [Value.int .i64 u1].toArray 3 (0, 0)), pt b3 (.cells [Value.bool true].toArray 4 (0, 0))] h)) o (R.mono hF) ?_ H1) ?_
  · intro i x hx L h H
    obtain ⟨hu, H⟩ := Own.ex1 H
    simp only [List.cons_append, List.nil_append] at H
    have hi := (List.getElem?_eq_some_iff.1 hx).1
    refine yield_round H (roundS_intro (he.putb (by rfl) _) fun C G hfn2 => ?_)
    subst hasg hbd
    refine ur_region rfl ?_
    refine ur_opw rfl rfl rfl rfl rfl (opv_assign rfl rfl ?_)
    refine ur_region_end ?_
    refine ur_beginRound G H fun h H => ?_
    refine ur_block ?_
    repeat refine ur_seq ?_
    refine ur_region rfl ?_
    refine ur_opw rfl rfl rfl rfl rfl (opv_move rfl rfl ?_)
    refine ur_opw rfl rfl rfl rfl rfl (opv_load1 (by first | exact .inl (Has.has H) | exact .inr (Has.has HR)) rfl rfl rfl ?_)
    refine ur_opw rfl rfl rfl rfl rfl (opv_cmp rfl rfl rfl rfl ?_)
    refine ur_region_end ?_
    refine ur_cond rfl (fun hc24 => ?_) (fun hc24 => ?_)
    · -- yes
      try simp only [decide_eq_true_eq, decide_eq_false_iff_not, Bool.not_eq_true', Bool.not_eq_false', beq_iff_eq, bne_iff_ne, beq_eq_false_iff_ne, bne_eq_false_iff_eq, ne_eq, Decidable.not_not] at hc24
      repeat refine ur_seq ?_
      refine ur_region rfl ?_
      refine ur_opw0 rfl rfl rfl rfl (opv_store H rfl rfl rfl rfl rfl rfl rfl fun h H => ?_)
      refine ur_region_end ?_
      exact ur_roundRet G H fun h H => ⟨false, rfl, Own.fold [0, 0, 0] H fun h H => ⟨hc24 ▸ List.mem_of_getElem? hx, H⟩⟩
    · -- no
      try simp only [decide_eq_true_eq, decide_eq_false_iff_not, Bool.not_eq_true', Bool.not_eq_false', beq_iff_eq, bne_iff_ne, beq_eq_false_iff_ne, bne_eq_false_iff_eq, ne_eq, Decidable.not_not] at hc24
      refine ur_skip ?_
      refine ur_inBlock ?_
      exact ur_roundEnd G H fun h H => ⟨true, rfl, Own.fold [0, 0, 0] H fun h H => ⟨by rw [List.take_add_one, hx]; simp only [Option.toList, List.mem_append, List.mem_singleton, not_or]; exact ⟨hu, fun q => hc24 q.symm⟩, H⟩⟩
  rintro v h1 h ⟨rfl, bb, H1⟩ J
  have H := J H1
  cases bb with
  | false =>
    obtain ⟨hu, H⟩ := Own.ex1 H
    simp only [List.cons_append, List.nil_append] at H
    refine ⟨some .ret, _, .done H, fun h H => ?_⟩
    exact ur_retDc G H Tryz.func215 rfl rfl fun h H => by simp [Cf.under, hu]
  | true =>
    obtain ⟨hu, H⟩ := Own.ex1 H
    simp only [List.cons_append, List.nil_append] at H
    refine ⟨none, _, .ready H, fun h H => ?_⟩
    refine ur_inBlock ?_
    repeat refine ur_seq ?_
    refine ur_region rfl ?_
    refine ur_opw0 rfl rfl rfl rfl (opv_store H rfl rfl rfl rfl rfl rfl rfl fun h H => ?_)
    refine ur_region_end ?_
    rw [List.take_length] at hu
    exact ur_retDc G H Tryz.func215 rfl rfl fun h H => by simp [Cf.under, hu]
end Go.Proofs
