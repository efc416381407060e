/- SoloMore. -/
import Derived.Test.YtnfcoikbkmhggaaGreatHead21
import Derived.Test.YtnfcoikbkmhggaaGreatRight
set_option linter.all false
set_option linter.unusedVariables false
set_option linter.unusedSimpArgs false
namespace Go.Proofs
open Go.BL
variable {F h : Hp} {c : Cf} {A : CA} {L : List HProp}
def rangeI (n : Nat) : List Int := (List.range n).map fun (j : Nat) => (j : Int)
theorem rangeI_succ (n : Nat) : ints (rangeI (n + 1)) = ints (rangeI n) ++ [.int .i64 n] := by simp [rangeI, List.range_succ, ints]

set_option maxRecDepth 100000 in
theorem l21_more {d : Cf} {D : CA} (R : RdC F c A) (RD : RdC F d D) : CallS Tryz.prog F 3 [.agg (cfv c A).toArray, .agg (cfv d D).toArray].toArray h fun v h' => v = .bool true := by
  refine callS_intro Tryz.func3 rfl rfl rfl fun C G => ?_
  have H : Own [] h := trivial
  repeat refine ur_seq ?_
  refine ur_region rfl ?_
  refine ur_opw rfl rfl rfl rfl rfl (opv_box H rfl rfl fun cb h hcb H => ?_)
  refine ur_opw rfl rfl rfl rfl rfl (opv_box H rfl rfl fun db h hdb H => ?_)
  refine ur_opw rfl rfl rfl rfl rfl (opv_assign rfl rfl ?_)
  refine ur_region_end ?_
  repeat refine ur_seq ?_
  refine ur_region rfl ?_
  refine ur_opw rfl rfl rfl rfl rfl (opv_call rfl rfl rfl (opv_to [] [] H (fun F1 h1 hF HR1 H1 => h21_head) ?_))
  rintro v h1 h ⟨rfl⟩ J
  have H := J (LN := []) trivial
  refine ur_opw rfl rfl rfl rfl rfl (opv_assign rfl rfl ?_)
  refine ur_region_end ?_
  repeat refine ur_seq ?_
  refine ur_region rfl ?_
  refine ur_opw rfl rfl rfl rfl rfl (opv_loadA (by first | exact .inl (Has.has H) | exact .inr (Has.has HR)) rfl rfl ?_)
  refine ur_opw rfl rfl rfl rfl rfl (opv_call rfl rfl rfl (opv_to [] [] H (fun F1 h1 hF HR1 H1 => lw_great) ?_))
  rintro v h1 h ⟨rfl⟩ J
  have H := J (LN := []) trivial
  refine ur_opw rfl rfl rfl rfl rfl (opv_move rfl rfl ?_)
  refine ur_split 12 rfl (fun hc1 => ?_) (fun hc1 => ?_)
  · -- yes
    try simp only [decide_eq_true_eq, decide_eq_false_iff_not, Bool.not_eq_true', Bool.not_eq_false', beq_iff_eq, bne_iff_ne, beq_eq_false_iff_ne, bne_eq_false_iff_eq, ne_eq, Decidable.not_not] at hc1
    refine ur_pass rfl rfl rfl rfl ?_
    refine ur_pass rfl rfl rfl rfl ?_
    refine ur_opw rfl rfl rfl rfl rfl (opv_pick rfl rfl rfl ?_)
    refine ur_opw rfl rfl rfl rfl rfl (opv_move rfl rfl ?_)
    refine ur_pass rfl rfl rfl rfl ?_
    refine ur_pass rfl rfl rfl rfl ?_
    refine ur_pass rfl rfl rfl rfl ?_
    refine ur_opw rfl rfl rfl rfl rfl (opv_pick rfl rfl rfl ?_)
    refine ur_opw rfl rfl rfl rfl rfl (opv_move rfl rfl ?_)
    refine ur_pass rfl rfl rfl rfl ?_
    refine ur_pass rfl rfl rfl rfl ?_
    refine ur_pass rfl rfl rfl rfl ?_
    refine ur_opw rfl rfl rfl rfl rfl (opv_pick rfl rfl rfl ?_)
    refine ur_region_end ?_
    repeat refine ur_seq ?_
    refine ur_condT rfl ?_
    repeat refine ur_seq ?_
    refine ur_region rfl ?_
    refine ur_opw rfl rfl rfl rfl rfl (opv_move rfl rfl ?_)
    refine ur_opw rfl rfl rfl rfl rfl (opv_assign rfl rfl ?_)
    refine ur_region_end ?_
    exact ur_ret1 G Tryz.func3 rfl rfl rfl
  · -- no
    try simp only [decide_eq_true_eq, decide_eq_false_iff_not, Bool.not_eq_true', Bool.not_eq_false', beq_iff_eq, bne_iff_ne, beq_eq_false_iff_ne, bne_eq_false_iff_eq, ne_eq, Decidable.not_not] at hc1
    refine ur_opw rfl rfl rfl rfl rfl (opv_loadA (by first | exact .inl (Has.has H) | exact .inr (Has.has HR)) rfl rfl ?_)
    refine ur_opw rfl rfl rfl rfl rfl (opv_call rfl rfl rfl (opv_to [] [] H (fun F1 h1 hF HR1 H1 => lw_great) ?_))
    rintro v h1 h ⟨rfl⟩ J
    have H := J (LN := []) trivial
    refine ur_opw rfl rfl rfl rfl rfl (opv_pick rfl rfl rfl ?_)
    refine ur_opw rfl rfl rfl rfl rfl (opv_move rfl rfl ?_)
    refine ur_split 16 rfl (fun hc2 => ?_) (fun hc2 => ?_)
    · -- yes
      try simp only [decide_eq_true_eq, decide_eq_false_iff_not, Bool.not_eq_true', Bool.not_eq_false', beq_iff_eq, bne_iff_ne, beq_eq_false_iff_ne, bne_eq_false_iff_eq, ne_eq, Decidable.not_not] at hc2
      refine ur_pass rfl rfl rfl rfl ?_
      refine ur_pass rfl rfl rfl rfl ?_
      refine ur_pass rfl rfl rfl rfl ?_
      refine ur_opw rfl rfl rfl rfl rfl (opv_pick rfl rfl rfl ?_)
      refine ur_opw rfl rfl rfl rfl rfl (opv_move rfl rfl ?_)
      refine ur_pass rfl rfl rfl rfl ?_
      refine ur_pass rfl rfl rfl rfl ?_
      refine ur_pass rfl rfl rfl rfl ?_
      refine ur_opw rfl rfl rfl rfl rfl (opv_pick rfl rfl rfl ?_)
      refine ur_region_end ?_
      repeat refine ur_seq ?_
      refine ur_condT rfl ?_
      repeat refine ur_seq ?_
      refine ur_region rfl ?_
      refine ur_opw rfl rfl rfl rfl rfl (opv_move rfl rfl ?_)
      refine ur_opw rfl rfl rfl rfl rfl (opv_assign rfl rfl ?_)
      refine ur_region_end ?_
      exact ur_ret1 G Tryz.func3 rfl rfl rfl
    · -- no
      try simp only [decide_eq_true_eq, decide_eq_false_iff_not, Bool.not_eq_true', Bool.not_eq_false', beq_iff_eq, bne_iff_ne, beq_eq_false_iff_ne, bne_eq_false_iff_eq, ne_eq, Decidable.not_not] at hc2
      refine ur_opw rfl rfl rfl rfl rfl (opv_loadA (by first | exact .inl (Has.has H) | exact .inr (Has.has HR)) rfl rfl ?_)
      refine ur_opw rfl rfl rfl rfl rfl (opv_call rfl rfl rfl (opv_to [] [] H (fun F1 h1 hF HR1 H1 => lw_right (R.mono hF) (by omega) (by omega)) ?_))
      rintro v h1 h ⟨r1, rfl, hr1, hr1q⟩ J
      have H := J (LN := []) trivial
      refine ur_opw rfl rfl rfl rfl rfl (opv_not rfl rfl ?_)
      refine ur_opw rfl rfl rfl rfl rfl (opv_pick rfl rfl rfl ?_)
      refine ur_opw rfl rfl rfl rfl rfl (opv_move rfl rfl ?_)
      refine ur_split 21 rfl (fun hc3 => ?_) (fun hc3 => ?_)
      · -- yes
        try simp only [decide_eq_true_eq, decide_eq_false_iff_not, Bool.not_eq_true', Bool.not_eq_false', beq_iff_eq, bne_iff_ne, beq_eq_false_iff_ne, bne_eq_false_iff_eq, ne_eq, Decidable.not_not] at hc3
        refine ur_pass rfl rfl rfl rfl ?_
        refine ur_pass rfl rfl rfl rfl ?_
        refine ur_pass rfl rfl rfl rfl ?_
        refine ur_opw rfl rfl rfl rfl rfl (opv_pick rfl rfl rfl ?_)
        refine ur_region_end ?_
        repeat refine ur_seq ?_
        refine ur_condT rfl ?_
        repeat refine ur_seq ?_
        refine ur_region rfl ?_
        refine ur_opw rfl rfl rfl rfl rfl (opv_move rfl rfl ?_)
        refine ur_opw rfl rfl rfl rfl rfl (opv_assign rfl rfl ?_)
        refine ur_region_end ?_
        exact ur_ret1 G Tryz.func3 rfl rfl rfl
      · -- no
        try simp only [decide_eq_true_eq, decide_eq_false_iff_not, Bool.not_eq_true', Bool.not_eq_false', beq_iff_eq, bne_iff_ne, beq_eq_false_iff_ne, bne_eq_false_iff_eq, ne_eq, Decidable.not_not] at hc3
        refine ur_opw rfl rfl rfl rfl rfl (opv_loadA (by first | exact .inl (Has.has H) | exact .inr (Has.has HR)) rfl rfl ?_)
        refine ur_opw rfl rfl rfl rfl rfl (opv_call rfl rfl rfl (opv_to [] [] H (fun F1 h1 hF HR1 H1 => lw_right (RD.mono hF) (by omega) (by omega)) ?_))
        rintro v h1 h ⟨r2, rfl, hr2, hr2q⟩ J
        have H := J (LN := []) trivial
        refine ur_opw rfl rfl rfl rfl rfl (opv_not rfl rfl ?_)
        refine ur_opw rfl rfl rfl rfl rfl (opv_pick rfl rfl rfl ?_)
        refine ur_region_end ?_
        repeat refine ur_seq ?_
        refine ur_cond rfl (fun hc4 => ?_) (fun hc4 => ?_)
        · -- yes
          try simp only [decide_eq_true_eq, decide_eq_false_iff_not, Bool.not_eq_true', Bool.not_eq_false', beq_iff_eq, bne_iff_ne, beq_eq_false_iff_ne, bne_eq_false_iff_eq, ne_eq, Decidable.not_not] at hc4
          repeat refine ur_seq ?_
          refine ur_region rfl ?_
          refine ur_opw rfl rfl rfl rfl rfl (opv_move rfl rfl ?_)
          refine ur_opw rfl rfl rfl rfl rfl (opv_assign rfl rfl ?_)
          refine ur_region_end ?_
          exact ur_ret1 G Tryz.func3 rfl rfl rfl
        · -- no
          try simp only [decide_eq_true_eq, decide_eq_false_iff_not, Bool.not_eq_true', Bool.not_eq_false', beq_iff_eq, bne_iff_ne, beq_eq_false_iff_ne, bne_eq_false_iff_eq, ne_eq, Decidable.not_not] at hc4
          refine ur_skip ?_
          repeat refine ur_seq ?_
          refine ur_region rfl ?_
          refine ur_opw rfl rfl rfl rfl rfl (opv_loadA (by first | exact .inl (Has.has H) | exact .inr (Has.has HR)) rfl rfl ?_)
          refine ur_opw rfl rfl rfl rfl rfl (opv_alloc H rfl fun eb h heb H => ?_)
          refine ur_opw0 rfl rfl rfl rfl (opv_store H rfl rfl rfl rfl rfl rfl rfl fun h H => ?_)
          refine ur_region_end ?_
          repeat refine ur_seq ?_
          refine ur_region rfl ?_
          refine ur_opw rfl rfl rfl rfl rfl (opv_fieldAddr0 rfl rfl rfl ?_)
          refine ur_opw rfl rfl rfl rfl rfl (opv_load1 (by first | exact .inl (Has.has H) | exact .inr (Has.has HR)) rfl rfl rfl ?_)
          refine ur_opw rfl rfl rfl rfl rfl (opv_fieldAddr0 rfl rfl rfl ?_)
          refine ur_opw0 rfl rfl rfl rfl (opv_store H rfl rfl rfl rfl rfl rfl rfl fun h H => ?_)
          refine ur_region_end ?_
          repeat refine ur_seq ?_
          refine ur_region rfl ?_
          refine ur_opw rfl rfl rfl rfl rfl (opv_fieldAddr0 rfl rfl rfl ?_)
          refine ur_opw rfl rfl rfl rfl rfl (opv_load1 (by first | exact .inl (Has.has H) | exact .inr (Has.has HR)) rfl rfl rfl ?_)
          refine ur_opw rfl rfl rfl rfl rfl (opv_fieldAddr0 rfl rfl rfl ?_)
          refine ur_opw0 rfl rfl rfl rfl (opv_store H rfl rfl rfl rfl rfl rfl rfl fun h H => ?_)
          refine ur_region_end ?_
          repeat refine ur_seq ?_
          refine ur_region rfl ?_
          refine ur_opw rfl rfl rfl rfl rfl (opv_fieldAddr0 rfl rfl rfl ?_)
          refine ur_opw rfl rfl rfl rfl rfl (opv_load1 (by first | exact .inl (Has.has H) | exact .inr (Has.has HR)) rfl rfl rfl ?_)
          refine ur_opw rfl rfl rfl rfl rfl (opv_fieldAddr0 rfl rfl rfl ?_)
          refine ur_opw0 rfl rfl rfl rfl (opv_store H rfl rfl rfl rfl rfl rfl rfl fun h H => ?_)
          refine ur_region_end ?_
          repeat refine ur_seq ?_
          refine ur_region rfl ?_
          refine ur_opw rfl rfl rfl rfl rfl (opv_fieldAddr0 rfl rfl rfl ?_)
          refine ur_opw rfl rfl rfl rfl rfl (opv_load1 (by first | exact .inl (Has.has H) | exact .inr (Has.has HR)) rfl rfl rfl ?_)
          refine ur_opw rfl rfl rfl rfl rfl (opv_fieldAddr0 rfl rfl rfl ?_)
          refine ur_opw0 rfl rfl rfl rfl (opv_store H rfl rfl rfl rfl rfl rfl rfl fun h H => ?_)
          refine ur_region_end ?_
          repeat refine ur_seq ?_
          refine ur_region rfl ?_
          refine ur_opw rfl rfl rfl rfl rfl (opv_fieldAddr0 rfl rfl rfl ?_)
          refine ur_opw rfl rfl rfl rfl rfl (opv_load1 (by first | exact .inl (Has.has H) | exact .inr (Has.has HR)) rfl rfl rfl ?_)
          refine ur_opw rfl rfl rfl rfl rfl (opv_fieldAddr0 rfl rfl rfl ?_)
          refine ur_opw0 rfl rfl rfl rfl (opv_store H rfl rfl rfl rfl rfl rfl rfl fun h H => ?_)
          refine ur_region_end ?_
          repeat refine ur_seq ?_
          refine ur_region rfl ?_
          refine ur_opw rfl rfl rfl rfl rfl (opv_fieldAddr0 rfl rfl rfl ?_)
          refine ur_opw0 rfl rfl rfl rfl (opv_store H rfl rfl rfl rfl rfl rfl rfl fun h H => ?_)
          refine ur_region_end ?_
          repeat refine ur_seq ?_
          refine ur_region rfl ?_
          refine ur_opw rfl rfl rfl rfl rfl (opv_assign rfl rfl ?_)
          refine ur_region_end ?_
          repeat refine ur_seq ?_
          refine ur_block ?_
          have oc : c.Ok := hr1 (by assumption)
          have od : d.Ok := hr2 (by assumption)
          have hn1 := oc.nodes
          have ht1 := oc.tickets
          have ht2 := oc.retry
          have H := Own.addNil 3 1 H
          refine ur_sub (l' := [(7, .int .i64 (0 : Nat)), (6, .pointer (some ⟨eb, 0, none⟩)), (5, .bool true), (2, .pointer (some ⟨cb, 0, none⟩))]) ⟨rfl, rfl, rfl, rfl, trivial⟩ ?_
          refine ur_loop_inv (n := c.parents.length) (fun n l h => ∃ (i : Nat) (la : Option Addr) (lc : Nat), l = [(7, .int .i64 (i : Nat)), (6, .pointer (some ⟨eb, 0, none⟩)), (5, .bool true), (2, .pointer (some ⟨cb, 0, none⟩))] ∧ n + i = c.parents.length ∧ Own [SlR 3 1 la i lc (ints (rangeI i)), pt eb (.cells [Value.int .i64 c.threads, Value.int .i64 c.stripes, Value.int .i64 d.gate, Value.int .i64 d.lease, Value.int .i64 c.retry, Value.int .i64 c.tickets, Value.slice A.pa c.parents.length A.pc, Value.slice la i lc].toArray 24 (0, 0)), pt cb (.cells (cfv c A).toArray 24 (0, 0))] h) ⟨0, none, 0, rfl, by omega, H.keep [0, 0, 1]⟩ ?_
          rintro n ih l h ⟨i, la, lc, rfl, hn, H⟩
          repeat refine ur_seq ?_
          refine ur_region rfl ?_
          refine ur_opw rfl rfl rfl rfl rfl (opv_move rfl rfl ?_)
          refine ur_opw rfl rfl rfl rfl rfl (opv_fieldAddr0 rfl rfl rfl ?_)
          refine ur_opw rfl rfl rfl rfl rfl (opv_load1 (by first | exact .inl (Has.has H) | exact .inr (Has.has HR)) rfl rfl rfl ?_)
          refine ur_opw rfl rfl rfl rfl rfl (opv_len rfl rfl ?_)
          refine ur_opw rfl rfl rfl rfl rfl (opv_cmp rfl rfl rfl rfl ?_)
          refine ur_region_end ?_
          repeat refine ur_seq ?_
          refine ur_cond rfl (fun hc5 => ?_) (fun hc5 => ?_)
          · -- yes
            try simp only [decide_eq_true_eq, decide_eq_false_iff_not, Bool.not_eq_true', Bool.not_eq_false', beq_iff_eq, bne_iff_ne, beq_eq_false_iff_ne, bne_eq_false_iff_eq, ne_eq, Decidable.not_not] at hc5
            refine ur_skip ?_
            repeat refine ur_seq ?_
            refine ur_block ?_
            refine ur_region rfl ?_
            refine ur_opw rfl rfl rfl rfl rfl (opv_fieldAddr0 rfl rfl rfl ?_)
            refine ur_opw rfl rfl rfl rfl rfl (opv_load1 (by first | exact .inl (Has.has H) | exact .inr (Has.has HR)) rfl rfl rfl ?_)
            refine ur_opw rfl rfl rfl rfl rfl (opv_move rfl rfl ?_)
            refine ur_opw rfl rfl rfl rfl rfl (opv_buildSlice H rfl rfl rfl rfl rfl fun b6 h hb6 H => ?_)
            refine ur_opw rfl rfl rfl rfl rfl (opv_append H rfl rfl (by first | exact .inl (Has.has H) | exact .inr (Has.has HR)) rfl rfl (by omega) (by omega) fun la2 la2c h H => ?_)
            refine ur_opw rfl rfl rfl rfl rfl (opv_fieldAddr0 rfl rfl rfl ?_)
            refine ur_opw0 rfl rfl rfl rfl (opv_store H rfl rfl rfl rfl rfl rfl rfl fun h H => ?_)
            refine ur_region_end ?_
            refine ur_inBlock ?_
            refine ur_region rfl ?_
            refine ur_opw rfl rfl rfl rfl rfl (opv_move rfl rfl ?_)
            refine ur_opw rfl rfl rfl rfl rfl (opv_arith rfl rfl rfl rfl (by first | exact wi (by omega) | rfl) ?_)
            refine ur_opw rfl rfl rfl rfl rfl (opv_assign rfl rfl ?_)
            refine ur_region_end ?_
            refine ur_sub (l' := [(7, .int .i64 (i + 1 : Nat)), (6, .pointer (some ⟨eb, 0, none⟩)), (5, .bool true), (2, .pointer (some ⟨cb, 0, none⟩))]) ⟨rfl, rfl, rfl, rfl, trivial⟩ ?_
            refine ih (n - 1) _ _ (by omega) ⟨i + 1, la2, la2c, rfl, by omega, by rw [rangeI_succ]; exact H.keep [0, 1, 1]⟩
          · -- no
            try simp only [decide_eq_true_eq, decide_eq_false_iff_not, Bool.not_eq_true', Bool.not_eq_false', beq_iff_eq, bne_iff_ne, beq_eq_false_iff_ne, bne_eq_false_iff_eq, ne_eq, Decidable.not_not] at hc5
            refine ur_exit rfl ?_
            repeat refine ur_seq ?_
            refine ur_region rfl ?_
            refine ur_opw rfl rfl rfl rfl rfl (opv_loadA (by first | exact .inl (Has.has H) | exact .inr (Has.has HR)) rfl rfl ?_)
            refine ur_opw rfl rfl rfl rfl rfl (opv_alloc H rfl fun fb h hfb H => ?_)
            refine ur_opw0 rfl rfl rfl rfl (opv_store H rfl rfl rfl rfl rfl rfl rfl fun h H => ?_)
            refine ur_region_end ?_
            repeat refine ur_seq ?_
            refine ur_region rfl ?_
            refine ur_opw rfl rfl rfl rfl rfl (opv_fieldAddr0 rfl rfl rfl ?_)
            refine ur_opw rfl rfl rfl rfl rfl (opv_load1 (by first | exact .inl (Has.has H) | exact .inr (Has.has HR)) rfl rfl rfl ?_)
            refine ur_opw rfl rfl rfl rfl rfl (opv_arith rfl rfl rfl rfl (by first | exact wi (by omega) | rfl) ?_)
            refine ur_opw rfl rfl rfl rfl rfl (opv_min rfl rfl ?_)
            refine ur_opw rfl rfl rfl rfl rfl (opv_fieldAddr0 rfl rfl rfl ?_)
            refine ur_opw0 rfl rfl rfl rfl (opv_store H rfl rfl rfl rfl rfl rfl rfl fun h H => ?_)
            refine ur_region_end ?_
            repeat refine ur_seq ?_
            refine ur_region rfl ?_
            refine ur_opw rfl rfl rfl rfl rfl (opv_fieldAddr0 rfl rfl rfl ?_)
            refine ur_opw rfl rfl rfl rfl rfl (opv_load1 (by first | exact .inl (Has.has H) | exact .inr (Has.has HR)) rfl rfl rfl ?_)
            refine ur_opw rfl rfl rfl rfl rfl (opv_arith rfl rfl rfl rfl (by first | exact wi (by omega) | rfl) ?_)
            refine ur_opw rfl rfl rfl rfl rfl (opv_min rfl rfl ?_)
            refine ur_opw rfl rfl rfl rfl rfl (opv_fieldAddr0 rfl rfl rfl ?_)
            refine ur_opw0 rfl rfl rfl rfl (opv_store H rfl rfl rfl rfl rfl rfl rfl fun h H => ?_)
            refine ur_region_end ?_
            repeat refine ur_seq ?_
            have hi : i = c.parents.length := by omega
            subst hi
            obtain ⟨e, he⟩ : ∃ e : Cf, e = ⟨c.threads, c.stripes, d.gate, d.lease, c.retry, c.tickets, c.parents, rangeI c.parents.length⟩ := ⟨_, rfl⟩
            obtain ⟨f, hf⟩ : ∃ f : Cf, f = ⟨c.threads, c.stripes, c.gate, c.lease, if 8 < c.retry + 1 then 8 else c.retry + 1, if 16 < c.tickets + 1 then 16 else c.tickets + 1, c.parents, c.limits⟩ := ⟨_, rfl⟩
            have ecv : [Value.int .i64 c.threads, Value.int .i64 c.stripes, Value.int .i64 d.gate, Value.int .i64 d.lease, Value.int .i64 c.retry, Value.int .i64 c.tickets, Value.slice A.pa c.parents.length A.pc, Value.slice la c.parents.length lc] = cfv e ⟨A.pa, A.pc, la, lc⟩ := by simp [cfv, he, rangeI]
            have fcv : [Value.int .i64 c.threads, Value.int .i64 c.stripes, Value.int .i64 c.gate, Value.int .i64 c.lease, Value.int .i64 (if 8 < c.retry + 1 then 8 else c.retry + 1), Value.int .i64 (if 16 < c.tickets + 1 then 16 else c.tickets + 1), Value.slice A.pa c.parents.length A.pc, Value.slice A.la c.limits.length A.lc] = cfv f A := by rw [hf]
            rw [ecv, fcv] at H
            have oe : e.Ok := by
              rw [he]
              exact ⟨oc.threads, oc.stripes, od.gate, od.lease, oc.retry, oc.tickets, oc.nodes, by simp [rangeI], fun v hv => by simp [rangeI] at hv; omega, oc.root, oc.tree⟩
            have of : f.Ok := by
              rw [hf]
              refine ⟨oc.threads, oc.stripes, oc.gate, oc.lease, ?_, ?_, oc.nodes, oc.limlen, oc.limits, oc.root, oc.tree⟩ <;> simp only <;> split <;> omega
            have el : e.limits.length = c.parents.length := by rw [he]; simp [rangeI]
            have eb1 : e.bound = c.bound := by rw [he]; rfl
            have ew1 : e.window = c.window := by rw [he]; rfl
            have fd : f.depth = c.depth := by rw [hf]; rfl
            have fb1 : f.bound ≥ c.bound ∧ (c.tickets ≠ 16 → f.bound > c.bound) := by
              have hs := oc.stripes
              have h1 : c.retry * (4 + 2 * c.stripes) ≤ f.retry * (4 + 2 * c.stripes) := Int.mul_le_mul_of_nonneg_right (by rw [hf]; simp only; split <;> omega) (by omega)
              have h2 : f.tickets = if 16 < c.tickets + 1 then 16 else c.tickets + 1 := by rw [hf]
              have h3 : f.stripes = c.stripes := by rw [hf]
              unfold Cf.bound
              rw [fd, h3]
              split at h2 <;> constructor <;> intros <;> omega
            have cw : c.window ≥ c.bound := by
              have h1 := oc.bound
              have h2 := oc.sqT
              have := Int.mul_le_mul_of_nonneg_right h2.1 (show 0 ≤ c.bound by omega)
              unfold Cf.window
              omega
            have REs : ∀ F1, Hp.le F F1 → Own (SlR 3 1 la c.parents.length lc (ints (rangeI c.parents.length)) :: []) F1 → RdC F1 e ⟨A.pa, A.pc, la, lc⟩ := fun F1 hF HF => ⟨by rw [he]; exact R.p.mono hF, by
              have e2 : e.limits = rangeI c.parents.length := by rw [he]
              have e3 : (rangeI c.parents.length).length = c.parents.length := by simp [rangeI]
              show RdSl F1 1 la e.limits.length (ints e.limits)
              rw [e2, e3]
              exact RdSl.ofSl HF⟩
            have REf : RdC F f A := ⟨by rw [hf]; exact R.p, by rw [hf]; exact R.l⟩
            by_cases ht16 : c.tickets = 16
            · -- True
              refine ur_draw Tryz.mixed (by kernel_rfl) ?_
              refine ud_op 0 (by kernel_rfl) (by kernel_rfl) rfl rfl rfl rfl (opv_move rfl rfl ?_)
              refine ud_op 1 (by kernel_rfl) (by kernel_rfl) rfl rfl rfl rfl (opv_move rfl rfl ?_)
              refine ud_ro [0, 0, 0, 0] [2, 4, 3] [2, 4] (by kernel_rfl) (by kernel_rfl) H fun F1 h hF1 HF H => ?_
              refine to_free rfl rfl rfl rfl rfl (fun _ _ hk => opv_loadA (by first | exact .inr (Has.has HF) | exact .inr (Has.has HR1) | exact .inr (Has.has (HR.mono hF1))) rfl rfl hk) ?_
              refine to_free rfl rfl rfl rfl rfl (fun _ _ hk => opv_loadA (by first | exact .inr (Has.has HF) | exact .inr (Has.has HR1) | exact .inr (Has.has (HR.mono hF1))) rfl rfl hk) ?_
              refine to_eff rfl rfl rfl rfl rfl (opv_call rfl rfl rfl (opv_to [] [] H (fun F2 h1 hF2 HR1 H1 => have hF := Hp.le_trans hF1 hF2; (eb1 ▸ so_bound oe ((REs F1 hF1 (HF.keep [1])).mono hF2))) ?_))
              rintro v h1 h ⟨rfl⟩ J
              have H := J (LN := []) trivial
              skip
              refine to_end fun h J => ?_
              have H := J H
              refine ud_op 5 (by kernel_rfl) (by kernel_rfl) rfl rfl rfl rfl (opv_call rfl rfl rfl (opv_to [] [] H (fun F1 h1 hF HR1 H1 => (so_bound oc (R.mono hF))) ?_))
              rintro v h1 h ⟨rfl⟩ J
              have H := J (LN := []) trivial
              skip
              refine ud_op 6 (by kernel_rfl) (by kernel_rfl) rfl rfl rfl rfl (opv_cmp (r := true) rfl rfl rfl (congrArg some (decide_eq_true rfl)) ?_)
              refine ud_op 7 (by kernel_rfl) (by kernel_rfl) rfl rfl rfl rfl (opv_pick rfl rfl rfl ?_)
              refine ud_op 8 (by kernel_rfl) (by kernel_rfl) rfl rfl rfl rfl (opv_move rfl rfl ?_)
              refine ud_ro [0, 0, 0, 0] [9, 11, 10] [9, 11] (by kernel_rfl) (by kernel_rfl) H fun F1 h hF1 HF H => ?_
              refine to_free rfl rfl rfl rfl rfl (fun _ _ hk => opv_loadA (by first | exact .inr (Has.has HF) | exact .inr (Has.has HR1) | exact .inr (Has.has (HR.mono hF1))) rfl rfl hk) ?_
              refine to_free rfl rfl rfl rfl rfl (fun _ _ hk => opv_loadA (by first | exact .inr (Has.has HF) | exact .inr (Has.has HR1) | exact .inr (Has.has (HR.mono hF1))) rfl rfl hk) ?_
              refine to_eff rfl rfl rfl rfl rfl (opv_call rfl rfl rfl (opv_to [] [] H (fun F2 h1 hF2 HR1 H1 => have hF := Hp.le_trans hF1 hF2; (ew1 ▸ so_window oe ((REs F1 hF1 (HF.keep [1])).mono hF2))) ?_))
              rintro v h1 h ⟨rfl⟩ J
              have H := J (LN := []) trivial
              skip
              refine to_end fun h J => ?_
              have H := J H
              refine ud_op 12 (by kernel_rfl) (by kernel_rfl) rfl rfl rfl rfl (opv_call rfl rfl rfl (opv_to [] [] H (fun F1 h1 hF HR1 H1 => (so_window oc (R.mono hF))) ?_))
              rintro v h1 h ⟨rfl⟩ J
              have H := J (LN := []) trivial
              skip
              refine ud_op 13 (by kernel_rfl) (by kernel_rfl) rfl rfl rfl rfl (opv_cmp (r := true) rfl rfl rfl (congrArg some (decide_eq_true rfl)) ?_)
              refine ud_op 14 (by kernel_rfl) (by kernel_rfl) rfl rfl rfl rfl (opv_pick rfl rfl rfl ?_)
              refine ud_op 15 (by kernel_rfl) (by kernel_rfl) rfl rfl rfl rfl (opv_move rfl rfl ?_)
              refine ud_ro [0, 0, 0, 0] [16, 18, 17] [16, 18] (by kernel_rfl) (by kernel_rfl) H fun F1 h hF1 HF H => ?_
              refine to_free rfl rfl rfl rfl rfl (fun _ _ hk => opv_loadA (by first | exact .inr (Has.has HF) | exact .inr (Has.has HR1) | exact .inr (Has.has (HR.mono hF1))) rfl rfl hk) ?_
              refine to_free rfl rfl rfl rfl rfl (fun _ _ hk => opv_loadA (by first | exact .inr (Has.has HF) | exact .inr (Has.has HR1) | exact .inr (Has.has (HR.mono hF1))) rfl rfl hk) ?_
              refine to_eff rfl rfl rfl rfl rfl (opv_call rfl rfl rfl (opv_to [] [] H (fun F2 h1 hF2 HR1 H1 => have hF := Hp.le_trans hF1 hF2; (so_bound of (REf.mono hF))) ?_))
              rintro v h1 h ⟨rfl⟩ J
              have H := J (LN := []) trivial
              skip
              refine to_end fun h J => ?_
              have H := J H
              refine ud_op 19 (by kernel_rfl) (by kernel_rfl) rfl rfl rfl rfl (opv_call rfl rfl rfl (opv_to [] [] H (fun F1 h1 hF HR1 H1 => (so_bound oc (R.mono hF))) ?_))
              rintro v h1 h ⟨rfl⟩ J
              have H := J (LN := []) trivial
              skip
              refine ud_op 20 (by kernel_rfl) (by kernel_rfl) rfl rfl rfl rfl (opv_cmp (r := true) rfl rfl rfl (congrArg some (decide_eq_true fb1.1)) ?_)
              refine ud_op 21 (by kernel_rfl) (by kernel_rfl) rfl rfl rfl rfl (opv_pick rfl rfl rfl ?_)
              refine ud_op 22 (by kernel_rfl) (by kernel_rfl) rfl rfl rfl rfl (opv_move rfl rfl ?_)
              refine ud_op 23 (by kernel_rfl) (by kernel_rfl) rfl rfl rfl rfl (opv_fieldAddr0 rfl rfl rfl ?_)
              refine ud_op 24 (by kernel_rfl) (by kernel_rfl) rfl rfl rfl rfl (opv_load1 (by first | exact .inl (Has.has H) | exact .inr (Has.has HR)) rfl rfl rfl ?_)
              refine ud_op 25 (by kernel_rfl) (by kernel_rfl) rfl rfl rfl rfl (opv_cmp (r := true) rfl rfl rfl (congrArg some (decide_eq_true ht16)) ?_)
              refine ud_op 26 (by kernel_rfl) (by kernel_rfl) rfl rfl rfl rfl (opv_move rfl rfl ?_)
              refine ud_ro [0, 0, 0, 0] [27, 29, 28] [27, 29] (by kernel_rfl) (by kernel_rfl) H fun F1 h hF1 HF H => ?_
              refine to_skip rfl rfl rfl rfl ?_
              refine to_skip rfl rfl rfl rfl ?_
              refine to_skip rfl rfl rfl rfl ?_
              refine to_end fun h J => ?_
              have H := J H
              refine ud_ro [0, 0, 0, 0] [30] [] (by kernel_rfl) (by kernel_rfl) H fun F1 h hF1 HF H => ?_
              refine to_skip rfl rfl rfl rfl ?_
              refine to_end fun h J => ?_
              have H := J H
              refine ud_ro [0, 0, 0, 0] [31] [31] (by kernel_rfl) (by kernel_rfl) H fun F1 h hF1 HF H => ?_
              refine to_skip rfl rfl rfl rfl ?_
              refine to_end fun h J => ?_
              have H := J H
              refine ud_op 32 (by kernel_rfl) (by kernel_rfl) rfl rfl rfl rfl (opv_pick rfl rfl rfl ?_)
              refine ud_op 33 (by kernel_rfl) (by kernel_rfl) rfl rfl rfl rfl (opv_pick rfl rfl rfl ?_)
              refine ud_op 34 (by kernel_rfl) (by kernel_rfl) rfl rfl rfl rfl (opv_move rfl rfl ?_)
              refine ud_ro [0, 0, 0, 0] [35, 37, 36] [35, 37] (by kernel_rfl) (by kernel_rfl) H fun F1 h hF1 HF H => ?_
              refine to_free rfl rfl rfl rfl rfl (fun _ _ hk => opv_loadA (by first | exact .inr (Has.has HF) | exact .inr (Has.has HR1) | exact .inr (Has.has (HR.mono hF1))) rfl rfl hk) ?_
              refine to_free rfl rfl rfl rfl rfl (fun _ _ hk => opv_loadA (by first | exact .inr (Has.has HF) | exact .inr (Has.has HR1) | exact .inr (Has.has (HR.mono hF1))) rfl rfl hk) ?_
              refine to_eff rfl rfl rfl rfl rfl (opv_call rfl rfl rfl (opv_to [] [] H (fun F2 h1 hF2 HR1 H1 => have hF := Hp.le_trans hF1 hF2; (so_window oc (R.mono hF))) ?_))
              rintro v h1 h ⟨rfl⟩ J
              have H := J (LN := []) trivial
              skip
              refine to_end fun h J => ?_
              have H := J H
              refine ud_op 38 (by kernel_rfl) (by kernel_rfl) rfl rfl rfl rfl (opv_call rfl rfl rfl (opv_to [] [] H (fun F1 h1 hF HR1 H1 => (so_bound oc (R.mono hF))) ?_))
              rintro v h1 h ⟨rfl⟩ J
              have H := J (LN := []) trivial
              skip
              refine ud_op 39 (by kernel_rfl) (by kernel_rfl) rfl rfl rfl rfl (opv_cmp (r := true) rfl rfl rfl (congrArg some (decide_eq_true cw)) ?_)
              refine ud_op 40 (by kernel_rfl) (by kernel_rfl) rfl rfl rfl rfl (opv_pick rfl rfl rfl ?_)
              refine ud_op 41 (by kernel_rfl) (by kernel_rfl) rfl rfl rfl rfl (opv_assign rfl rfl ?_)
              refine ud_end (by kernel_rfl) ?_
              exact ur_ret1 G Tryz.func3 rfl rfl rfl
            · -- False
              refine ur_draw Tryz.mixed (by kernel_rfl) ?_
              refine ud_op 0 (by kernel_rfl) (by kernel_rfl) rfl rfl rfl rfl (opv_move rfl rfl ?_)
              refine ud_op 1 (by kernel_rfl) (by kernel_rfl) rfl rfl rfl rfl (opv_move rfl rfl ?_)
              refine ud_ro [0, 0, 0, 0] [2, 4, 3] [2, 4] (by kernel_rfl) (by kernel_rfl) H fun F1 h hF1 HF H => ?_
              refine to_free rfl rfl rfl rfl rfl (fun _ _ hk => opv_loadA (by first | exact .inr (Has.has HF) | exact .inr (Has.has HR1) | exact .inr (Has.has (HR.mono hF1))) rfl rfl hk) ?_
              refine to_free rfl rfl rfl rfl rfl (fun _ _ hk => opv_loadA (by first | exact .inr (Has.has HF) | exact .inr (Has.has HR1) | exact .inr (Has.has (HR.mono hF1))) rfl rfl hk) ?_
              refine to_eff rfl rfl rfl rfl rfl (opv_call rfl rfl rfl (opv_to [] [] H (fun F2 h1 hF2 HR1 H1 => have hF := Hp.le_trans hF1 hF2; (eb1 ▸ so_bound oe ((REs F1 hF1 (HF.keep [1])).mono hF2))) ?_))
              rintro v h1 h ⟨rfl⟩ J
              have H := J (LN := []) trivial
              skip
              refine to_end fun h J => ?_
              have H := J H
              refine ud_op 5 (by kernel_rfl) (by kernel_rfl) rfl rfl rfl rfl (opv_call rfl rfl rfl (opv_to [] [] H (fun F1 h1 hF HR1 H1 => (so_bound oc (R.mono hF))) ?_))
              rintro v h1 h ⟨rfl⟩ J
              have H := J (LN := []) trivial
              skip
              refine ud_op 6 (by kernel_rfl) (by kernel_rfl) rfl rfl rfl rfl (opv_cmp (r := true) rfl rfl rfl (congrArg some (decide_eq_true rfl)) ?_)
              refine ud_op 7 (by kernel_rfl) (by kernel_rfl) rfl rfl rfl rfl (opv_pick rfl rfl rfl ?_)
              refine ud_op 8 (by kernel_rfl) (by kernel_rfl) rfl rfl rfl rfl (opv_move rfl rfl ?_)
              refine ud_ro [0, 0, 0, 0] [9, 11, 10] [9, 11] (by kernel_rfl) (by kernel_rfl) H fun F1 h hF1 HF H => ?_
              refine to_free rfl rfl rfl rfl rfl (fun _ _ hk => opv_loadA (by first | exact .inr (Has.has HF) | exact .inr (Has.has HR1) | exact .inr (Has.has (HR.mono hF1))) rfl rfl hk) ?_
              refine to_free rfl rfl rfl rfl rfl (fun _ _ hk => opv_loadA (by first | exact .inr (Has.has HF) | exact .inr (Has.has HR1) | exact .inr (Has.has (HR.mono hF1))) rfl rfl hk) ?_
              refine to_eff rfl rfl rfl rfl rfl (opv_call rfl rfl rfl (opv_to [] [] H (fun F2 h1 hF2 HR1 H1 => have hF := Hp.le_trans hF1 hF2; (ew1 ▸ so_window oe ((REs F1 hF1 (HF.keep [1])).mono hF2))) ?_))
              rintro v h1 h ⟨rfl⟩ J
              have H := J (LN := []) trivial
              skip
              refine to_end fun h J => ?_
              have H := J H
              refine ud_op 12 (by kernel_rfl) (by kernel_rfl) rfl rfl rfl rfl (opv_call rfl rfl rfl (opv_to [] [] H (fun F1 h1 hF HR1 H1 => (so_window oc (R.mono hF))) ?_))
              rintro v h1 h ⟨rfl⟩ J
              have H := J (LN := []) trivial
              skip
              refine ud_op 13 (by kernel_rfl) (by kernel_rfl) rfl rfl rfl rfl (opv_cmp (r := true) rfl rfl rfl (congrArg some (decide_eq_true rfl)) ?_)
              refine ud_op 14 (by kernel_rfl) (by kernel_rfl) rfl rfl rfl rfl (opv_pick rfl rfl rfl ?_)
              refine ud_op 15 (by kernel_rfl) (by kernel_rfl) rfl rfl rfl rfl (opv_move rfl rfl ?_)
              refine ud_ro [0, 0, 0, 0] [16, 18, 17] [16, 18] (by kernel_rfl) (by kernel_rfl) H fun F1 h hF1 HF H => ?_
              refine to_free rfl rfl rfl rfl rfl (fun _ _ hk => opv_loadA (by first | exact .inr (Has.has HF) | exact .inr (Has.has HR1) | exact .inr (Has.has (HR.mono hF1))) rfl rfl hk) ?_
              refine to_free rfl rfl rfl rfl rfl (fun _ _ hk => opv_loadA (by first | exact .inr (Has.has HF) | exact .inr (Has.has HR1) | exact .inr (Has.has (HR.mono hF1))) rfl rfl hk) ?_
              refine to_eff rfl rfl rfl rfl rfl (opv_call rfl rfl rfl (opv_to [] [] H (fun F2 h1 hF2 HR1 H1 => have hF := Hp.le_trans hF1 hF2; (so_bound of (REf.mono hF))) ?_))
              rintro v h1 h ⟨rfl⟩ J
              have H := J (LN := []) trivial
              skip
              refine to_end fun h J => ?_
              have H := J H
              refine ud_op 19 (by kernel_rfl) (by kernel_rfl) rfl rfl rfl rfl (opv_call rfl rfl rfl (opv_to [] [] H (fun F1 h1 hF HR1 H1 => (so_bound oc (R.mono hF))) ?_))
              rintro v h1 h ⟨rfl⟩ J
              have H := J (LN := []) trivial
              skip
              refine ud_op 20 (by kernel_rfl) (by kernel_rfl) rfl rfl rfl rfl (opv_cmp (r := true) rfl rfl rfl (congrArg some (decide_eq_true fb1.1)) ?_)
              refine ud_op 21 (by kernel_rfl) (by kernel_rfl) rfl rfl rfl rfl (opv_pick rfl rfl rfl ?_)
              refine ud_op 22 (by kernel_rfl) (by kernel_rfl) rfl rfl rfl rfl (opv_move rfl rfl ?_)
              refine ud_op 23 (by kernel_rfl) (by kernel_rfl) rfl rfl rfl rfl (opv_fieldAddr0 rfl rfl rfl ?_)
              refine ud_op 24 (by kernel_rfl) (by kernel_rfl) rfl rfl rfl rfl (opv_load1 (by first | exact .inl (Has.has H) | exact .inr (Has.has HR)) rfl rfl rfl ?_)
              refine ud_op 25 (by kernel_rfl) (by kernel_rfl) rfl rfl rfl rfl (opv_cmp (r := false) rfl rfl rfl (congrArg some (decide_eq_false ht16)) ?_)
              refine ud_op 26 (by kernel_rfl) (by kernel_rfl) rfl rfl rfl rfl (opv_move rfl rfl ?_)
              refine ud_ro [0, 0, 0, 0] [27, 29, 28] [27, 29] (by kernel_rfl) (by kernel_rfl) H fun F1 h hF1 HF H => ?_
              refine to_free rfl rfl rfl rfl rfl (fun _ _ hk => opv_loadA (by first | exact .inr (Has.has HF) | exact .inr (Has.has HR1) | exact .inr (Has.has (HR.mono hF1))) rfl rfl hk) ?_
              refine to_free rfl rfl rfl rfl rfl (fun _ _ hk => opv_loadA (by first | exact .inr (Has.has HF) | exact .inr (Has.has HR1) | exact .inr (Has.has (HR.mono hF1))) rfl rfl hk) ?_
              refine to_eff rfl rfl rfl rfl rfl (opv_call rfl rfl rfl (opv_to [] [] H (fun F2 h1 hF2 HR1 H1 => have hF := Hp.le_trans hF1 hF2; (so_bound of (REf.mono hF))) ?_))
              rintro v h1 h ⟨rfl⟩ J
              have H := J (LN := []) trivial
              skip
              refine to_end fun h J => ?_
              have H := J H
              refine ud_op 30 (by kernel_rfl) (by kernel_rfl) rfl rfl rfl rfl (opv_call rfl rfl rfl (opv_to [] [] H (fun F1 h1 hF HR1 H1 => (so_bound oc (R.mono hF))) ?_))
              rintro v h1 h ⟨rfl⟩ J
              have H := J (LN := []) trivial
              skip
              refine ud_op 31 (by kernel_rfl) (by kernel_rfl) rfl rfl rfl rfl (opv_cmp (r := true) rfl rfl rfl (congrArg some (decide_eq_true (fb1.2 ht16))) ?_)
              refine ud_op 32 (by kernel_rfl) (by kernel_rfl) rfl rfl rfl rfl (opv_pick rfl rfl rfl ?_)
              refine ud_op 33 (by kernel_rfl) (by kernel_rfl) rfl rfl rfl rfl (opv_pick rfl rfl rfl ?_)
              refine ud_op 34 (by kernel_rfl) (by kernel_rfl) rfl rfl rfl rfl (opv_move rfl rfl ?_)
              refine ud_ro [0, 0, 0, 0] [35, 37, 36] [35, 37] (by kernel_rfl) (by kernel_rfl) H fun F1 h hF1 HF H => ?_
              refine to_free rfl rfl rfl rfl rfl (fun _ _ hk => opv_loadA (by first | exact .inr (Has.has HF) | exact .inr (Has.has HR1) | exact .inr (Has.has (HR.mono hF1))) rfl rfl hk) ?_
              refine to_free rfl rfl rfl rfl rfl (fun _ _ hk => opv_loadA (by first | exact .inr (Has.has HF) | exact .inr (Has.has HR1) | exact .inr (Has.has (HR.mono hF1))) rfl rfl hk) ?_
              refine to_eff rfl rfl rfl rfl rfl (opv_call rfl rfl rfl (opv_to [] [] H (fun F2 h1 hF2 HR1 H1 => have hF := Hp.le_trans hF1 hF2; (so_window oc (R.mono hF))) ?_))
              rintro v h1 h ⟨rfl⟩ J
              have H := J (LN := []) trivial
              skip
              refine to_end fun h J => ?_
              have H := J H
              refine ud_op 38 (by kernel_rfl) (by kernel_rfl) rfl rfl rfl rfl (opv_call rfl rfl rfl (opv_to [] [] H (fun F1 h1 hF HR1 H1 => (so_bound oc (R.mono hF))) ?_))
              rintro v h1 h ⟨rfl⟩ J
              have H := J (LN := []) trivial
              skip
              refine ud_op 39 (by kernel_rfl) (by kernel_rfl) rfl rfl rfl rfl (opv_cmp (r := true) rfl rfl rfl (congrArg some (decide_eq_true cw)) ?_)
              refine ud_op 40 (by kernel_rfl) (by kernel_rfl) rfl rfl rfl rfl (opv_pick rfl rfl rfl ?_)
              refine ud_op 41 (by kernel_rfl) (by kernel_rfl) rfl rfl rfl rfl (opv_assign rfl rfl ?_)
              refine ud_end (by kernel_rfl) ?_
              exact ur_ret1 G Tryz.func3 rfl rfl rfl
end Go.Proofs
