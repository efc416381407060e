/- What a right setting is, as the document's program tells. -/
import Derived.Test.YtnfcoikbkmhggaaGreatLaw
set_option linter.all false
set_option linter.unusedVariables false
set_option linter.unusedSimpArgs false
namespace Go.Proofs
open Go.BL
variable {F h : Hp} {c : Cf} {A : CA} {L : List HProp}

theorem lw_right (R : RdC F c A) (hpl : c.parents.length ≤ 100) (hll : c.limits.length ≤ 100) : CallS Tryz.prog F 23 [.agg (cfv c A).toArray].toArray h fun v h' => ∃ b, v = .bool b ∧ (b = true → c.Ok) ∧ (c.Ok → b = true) := by
  refine callS_intro Tryz.func23 rfl rfl rfl fun C G => ?_
  have H : Own [] h := trivial
  repeat refine ur_seq ?_
  refine ur_region rfl ?_
  refine ur_opw rfl rfl rfl rfl rfl (opv_box H rfl rfl fun b1 h hb1 H => ?_)
  refine ur_opw rfl rfl rfl rfl rfl (opv_assign rfl rfl ?_)
  refine ur_region_end ?_
  repeat refine ur_seq ?_
  refine ur_region rfl ?_
  refine ur_opw rfl rfl rfl rfl rfl (opv_fieldAddr0 rfl rfl rfl ?_)
  refine ur_opw rfl rfl rfl rfl rfl (opv_load1 (by first | exact .inl (Has.has H) | exact .inr (Has.has HR)) rfl rfl rfl ?_)
  refine ur_opw rfl rfl rfl rfl rfl (opv_call rfl rfl rfl (opv_to [] [] H (fun F1 h1 hF HR1 H1 => lw_in) ?_))
  rintro v h1 h ⟨rfl⟩ J
  have H := J (LN := []) trivial
  refine ur_opw rfl rfl rfl rfl rfl (opv_not rfl rfl ?_)
  refine ur_opw rfl rfl rfl rfl rfl (opv_move rfl rfl ?_)
  refine ur_split 8 rfl (fun hc2 => ?_) (fun hc2 => ?_)
  · -- yes
    try simp only [decide_eq_true_eq, decide_eq_false_iff_not, Bool.not_eq_true', Bool.not_eq_false', beq_iff_eq, bne_iff_ne, beq_eq_false_iff_ne, bne_eq_false_iff_eq, ne_eq, Decidable.not_not] at hc2
    refine ur_pass rfl rfl rfl rfl ?_
    refine ur_pass rfl rfl rfl rfl ?_
    refine ur_pass rfl rfl rfl rfl ?_
    refine ur_pass rfl rfl rfl rfl ?_
    refine ur_pass rfl rfl rfl rfl ?_
    refine ur_pass rfl rfl rfl rfl ?_
    refine ur_pass rfl rfl rfl rfl ?_
    refine ur_pass rfl rfl rfl rfl ?_
    refine ur_pass rfl rfl rfl rfl ?_
    refine ur_pass rfl rfl rfl rfl ?_
    refine ur_pass rfl rfl rfl rfl ?_
    refine ur_pass rfl rfl rfl rfl ?_
    refine ur_pass rfl rfl rfl rfl ?_
    refine ur_pass rfl rfl rfl rfl ?_
    refine ur_pass rfl rfl rfl rfl ?_
    refine ur_pass rfl rfl rfl rfl ?_
    refine ur_pass rfl rfl rfl rfl ?_
    refine ur_pass rfl rfl rfl rfl ?_
    refine ur_opw rfl rfl rfl rfl rfl (opv_pick rfl rfl rfl ?_)
    refine ur_opw rfl rfl rfl rfl rfl (opv_move rfl rfl ?_)
    refine ur_pass rfl rfl rfl rfl ?_
    refine ur_pass rfl rfl rfl rfl ?_
    refine ur_pass rfl rfl rfl rfl ?_
    refine ur_pass rfl rfl rfl rfl ?_
    refine ur_opw rfl rfl rfl rfl rfl (opv_pick rfl rfl rfl ?_)
    refine ur_opw rfl rfl rfl rfl rfl (opv_move rfl rfl ?_)
    refine ur_pass rfl rfl rfl rfl ?_
    refine ur_pass rfl rfl rfl rfl ?_
    refine ur_pass rfl rfl rfl rfl ?_
    refine ur_pass rfl rfl rfl rfl ?_
    refine ur_opw rfl rfl rfl rfl rfl (opv_pick rfl rfl rfl ?_)
    refine ur_opw rfl rfl rfl rfl rfl (opv_move rfl rfl ?_)
    refine ur_pass rfl rfl rfl rfl ?_
    refine ur_pass rfl rfl rfl rfl ?_
    refine ur_pass rfl rfl rfl rfl ?_
    refine ur_pass rfl rfl rfl rfl ?_
    refine ur_opw rfl rfl rfl rfl rfl (opv_pick rfl rfl rfl ?_)
    refine ur_opw rfl rfl rfl rfl rfl (opv_move rfl rfl ?_)
    refine ur_pass rfl rfl rfl rfl ?_
    refine ur_pass rfl rfl rfl rfl ?_
    refine ur_pass rfl rfl rfl rfl ?_
    refine ur_pass rfl rfl rfl rfl ?_
    refine ur_opw rfl rfl rfl rfl rfl (opv_pick rfl rfl rfl ?_)
    refine ur_region_end ?_
    repeat refine ur_seq ?_
    refine ur_condT rfl ?_
    repeat refine ur_seq ?_
    refine ur_region rfl ?_
    refine ur_opw rfl rfl rfl rfl rfl (opv_assign rfl rfl ?_)
    refine ur_region_end ?_
    first
    | exact ur_ret1 G Tryz.func23 rfl rfl ⟨false, rfl, fun q => (by cases q), fun o => (by
        exfalso
        have o1 := o.threads
        have o2 := o.stripes
        have o3 := o.gate
        have o4 := o.lease
        have o5 := o.retry
        have o6 := o.tickets
        have o7 := o.nodes
        have o8 := o.limlen
        omega)⟩
    | exact ur_ret1 G Tryz.func23 rfl rfl ⟨false, rfl, fun q => (by cases q), fun o => (by
        exfalso
        have o9 := o.limits x (List.mem_of_getElem? hx)
        have o10 := o.root
        have o11 := o.tree i p
        first
        | omega
        | (have e : i = 0 := by omega
           subst e
           rw [hp] at o10
           injection o10 with o10
           omega)
        | (have o12 := o11 (by omega) hp
           omega))⟩
    | exact ur_ret1 G Tryz.func23 rfl rfl ⟨true, rfl, fun _ => (by
        have hi : i = c.parents.length := by omega
        exact ⟨by omega, by omega, by omega, by omega, by omega, by omega, by omega, by omega, hlim (by omega), hroot (by omega), fun j q hj hq => htree j q (by have := (List.getElem?_eq_some_iff.1 hq).1; omega) hj hq⟩), fun _ => rfl⟩
  · -- no
    try simp only [decide_eq_true_eq, decide_eq_false_iff_not, Bool.not_eq_true', Bool.not_eq_false', beq_iff_eq, bne_iff_ne, beq_eq_false_iff_ne, bne_eq_false_iff_eq, ne_eq, Decidable.not_not] at hc2
    refine ur_opw rfl rfl rfl rfl rfl (opv_fieldAddr0 rfl rfl rfl ?_)
    refine ur_opw rfl rfl rfl rfl rfl (opv_load1 (by first | exact .inl (Has.has H) | exact .inr (Has.has HR)) rfl rfl rfl ?_)
    refine ur_opw rfl rfl rfl rfl rfl (opv_cmp rfl rfl rfl rfl ?_)
    refine ur_opw rfl rfl rfl rfl rfl (opv_move rfl rfl ?_)
    refine ur_split 12 rfl (fun hc3 => ?_) (fun hc3 => ?_)
    · -- yes
      try simp only [decide_eq_true_eq, decide_eq_false_iff_not, Bool.not_eq_true', Bool.not_eq_false', beq_iff_eq, bne_iff_ne, beq_eq_false_iff_ne, bne_eq_false_iff_eq, ne_eq, Decidable.not_not] at hc3
      refine ur_opw rfl rfl rfl rfl rfl (opv_fieldAddr0 rfl rfl rfl ?_)
      refine ur_opw rfl rfl rfl rfl rfl (opv_load1 (by first | exact .inl (Has.has H) | exact .inr (Has.has HR)) rfl rfl rfl ?_)
      refine ur_opw rfl rfl rfl rfl rfl (opv_cmp rfl rfl rfl rfl ?_)
      refine ur_opw rfl rfl rfl rfl rfl (opv_pick rfl rfl rfl ?_)
      refine ur_opw rfl rfl rfl rfl rfl (opv_move rfl rfl ?_)
      refine ur_split 17 rfl (fun hc4 => ?_) (fun hc4 => ?_)
      · -- yes
        try simp only [decide_eq_true_eq, decide_eq_false_iff_not, Bool.not_eq_true', Bool.not_eq_false', beq_iff_eq, bne_iff_ne, beq_eq_false_iff_ne, bne_eq_false_iff_eq, ne_eq, Decidable.not_not] at hc4
        refine ur_opw rfl rfl rfl rfl rfl (opv_fieldAddr0 rfl rfl rfl ?_)
        refine ur_opw rfl rfl rfl rfl rfl (opv_load1 (by first | exact .inl (Has.has H) | exact .inr (Has.has HR)) rfl rfl rfl ?_)
        refine ur_opw rfl rfl rfl rfl rfl (opv_cmp rfl rfl rfl rfl ?_)
        refine ur_opw rfl rfl rfl rfl rfl (opv_pick rfl rfl rfl ?_)
        refine ur_opw rfl rfl rfl rfl rfl (opv_move rfl rfl ?_)
        refine ur_split 22 rfl (fun hc5 => ?_) (fun hc5 => ?_)
        · -- yes
          try simp only [decide_eq_true_eq, decide_eq_false_iff_not, Bool.not_eq_true', Bool.not_eq_false', beq_iff_eq, bne_iff_ne, beq_eq_false_iff_ne, bne_eq_false_iff_eq, ne_eq, Decidable.not_not] at hc5
          refine ur_opw rfl rfl rfl rfl rfl (opv_fieldAddr0 rfl rfl rfl ?_)
          refine ur_opw rfl rfl rfl rfl rfl (opv_load1 (by first | exact .inl (Has.has H) | exact .inr (Has.has HR)) rfl rfl rfl ?_)
          refine ur_opw rfl rfl rfl rfl rfl (opv_cmp rfl rfl rfl rfl ?_)
          refine ur_opw rfl rfl rfl rfl rfl (opv_pick rfl rfl rfl ?_)
          refine ur_opw rfl rfl rfl rfl rfl (opv_pick rfl rfl rfl ?_)
          refine ur_opw rfl rfl rfl rfl rfl (opv_move rfl rfl ?_)
          refine ur_split 28 rfl (fun hc6 => ?_) (fun hc6 => ?_)
          · -- yes
            try simp only [decide_eq_true_eq, decide_eq_false_iff_not, Bool.not_eq_true', Bool.not_eq_false', beq_iff_eq, bne_iff_ne, beq_eq_false_iff_ne, bne_eq_false_iff_eq, ne_eq, Decidable.not_not] at hc6
            refine ur_pass rfl rfl rfl rfl ?_
            refine ur_pass rfl rfl rfl rfl ?_
            refine ur_pass rfl rfl rfl rfl ?_
            refine ur_pass rfl rfl rfl rfl ?_
            refine ur_opw rfl rfl rfl rfl rfl (opv_pick rfl rfl rfl ?_)
            refine ur_opw rfl rfl rfl rfl rfl (opv_move rfl rfl ?_)
            refine ur_pass rfl rfl rfl rfl ?_
            refine ur_pass rfl rfl rfl rfl ?_
            refine ur_pass rfl rfl rfl rfl ?_
            refine ur_pass rfl rfl rfl rfl ?_
            refine ur_opw rfl rfl rfl rfl rfl (opv_pick rfl rfl rfl ?_)
            refine ur_opw rfl rfl rfl rfl rfl (opv_move rfl rfl ?_)
            refine ur_pass rfl rfl rfl rfl ?_
            refine ur_pass rfl rfl rfl rfl ?_
            refine ur_pass rfl rfl rfl rfl ?_
            refine ur_pass rfl rfl rfl rfl ?_
            refine ur_opw rfl rfl rfl rfl rfl (opv_pick rfl rfl rfl ?_)
            refine ur_opw rfl rfl rfl rfl rfl (opv_move rfl rfl ?_)
            refine ur_pass rfl rfl rfl rfl ?_
            refine ur_pass rfl rfl rfl rfl ?_
            refine ur_pass rfl rfl rfl rfl ?_
            refine ur_pass rfl rfl rfl rfl ?_
            refine ur_opw rfl rfl rfl rfl rfl (opv_pick rfl rfl rfl ?_)
            refine ur_region_end ?_
            repeat refine ur_seq ?_
            refine ur_condT rfl ?_
            repeat refine ur_seq ?_
            refine ur_region rfl ?_
            refine ur_opw rfl rfl rfl rfl rfl (opv_assign rfl rfl ?_)
            refine ur_region_end ?_
            first
            | exact ur_ret1 G Tryz.func23 rfl rfl ⟨false, rfl, fun q => (by cases q), fun o => (by
                exfalso
                have o1 := o.threads
                have o2 := o.stripes
                have o3 := o.gate
                have o4 := o.lease
                have o5 := o.retry
                have o6 := o.tickets
                have o7 := o.nodes
                have o8 := o.limlen
                omega)⟩
            | exact ur_ret1 G Tryz.func23 rfl rfl ⟨false, rfl, fun q => (by cases q), fun o => (by
                exfalso
                have o9 := o.limits x (List.mem_of_getElem? hx)
                have o10 := o.root
                have o11 := o.tree i p
                first
                | omega
                | (have e : i = 0 := by omega
                   subst e
                   rw [hp] at o10
                   injection o10 with o10
                   omega)
                | (have o12 := o11 (by omega) hp
                   omega))⟩
            | exact ur_ret1 G Tryz.func23 rfl rfl ⟨true, rfl, fun _ => (by
                have hi : i = c.parents.length := by omega
                exact ⟨by omega, by omega, by omega, by omega, by omega, by omega, by omega, by omega, hlim (by omega), hroot (by omega), fun j q hj hq => htree j q (by have := (List.getElem?_eq_some_iff.1 hq).1; omega) hj hq⟩), fun _ => rfl⟩
          · -- no
            try simp only [decide_eq_true_eq, decide_eq_false_iff_not, Bool.not_eq_true', Bool.not_eq_false', beq_iff_eq, bne_iff_ne, beq_eq_false_iff_ne, bne_eq_false_iff_eq, ne_eq, Decidable.not_not] at hc6
            refine ur_opw rfl rfl rfl rfl rfl (opv_fieldAddr0 rfl rfl rfl ?_)
            refine ur_opw rfl rfl rfl rfl rfl (opv_load1 (by first | exact .inl (Has.has H) | exact .inr (Has.has HR)) rfl rfl rfl ?_)
            refine ur_opw rfl rfl rfl rfl rfl (opv_call rfl rfl rfl (opv_to [] [] H (fun F1 h1 hF HR1 H1 => lw_in) ?_))
            rintro v h1 h ⟨rfl⟩ J
            have H := J (LN := []) trivial
            refine ur_opw rfl rfl rfl rfl rfl (opv_not rfl rfl ?_)
            refine ur_opw rfl rfl rfl rfl rfl (opv_pick rfl rfl rfl ?_)
            refine ur_opw rfl rfl rfl rfl rfl (opv_move rfl rfl ?_)
            refine ur_split 34 rfl (fun hc7 => ?_) (fun hc7 => ?_)
            · -- yes
              try simp only [decide_eq_true_eq, decide_eq_false_iff_not, Bool.not_eq_true', Bool.not_eq_false', beq_iff_eq, bne_iff_ne, beq_eq_false_iff_ne, bne_eq_false_iff_eq, ne_eq, Decidable.not_not] at hc7
              refine ur_pass rfl rfl rfl rfl ?_
              refine ur_pass rfl rfl rfl rfl ?_
              refine ur_pass rfl rfl rfl rfl ?_
              refine ur_pass rfl rfl rfl rfl ?_
              refine ur_opw rfl rfl rfl rfl rfl (opv_pick rfl rfl rfl ?_)
              refine ur_opw rfl rfl rfl rfl rfl (opv_move rfl rfl ?_)
              refine ur_pass rfl rfl rfl rfl ?_
              refine ur_pass rfl rfl rfl rfl ?_
              refine ur_pass rfl rfl rfl rfl ?_
              refine ur_pass rfl rfl rfl rfl ?_
              refine ur_opw rfl rfl rfl rfl rfl (opv_pick rfl rfl rfl ?_)
              refine ur_opw rfl rfl rfl rfl rfl (opv_move rfl rfl ?_)
              refine ur_pass rfl rfl rfl rfl ?_
              refine ur_pass rfl rfl rfl rfl ?_
              refine ur_pass rfl rfl rfl rfl ?_
              refine ur_pass rfl rfl rfl rfl ?_
              refine ur_opw rfl rfl rfl rfl rfl (opv_pick rfl rfl rfl ?_)
              refine ur_region_end ?_
              repeat refine ur_seq ?_
              refine ur_condT rfl ?_
              repeat refine ur_seq ?_
              refine ur_region rfl ?_
              refine ur_opw rfl rfl rfl rfl rfl (opv_assign rfl rfl ?_)
              refine ur_region_end ?_
              first
              | exact ur_ret1 G Tryz.func23 rfl rfl ⟨false, rfl, fun q => (by cases q), fun o => (by
                  exfalso
                  have o1 := o.threads
                  have o2 := o.stripes
                  have o3 := o.gate
                  have o4 := o.lease
                  have o5 := o.retry
                  have o6 := o.tickets
                  have o7 := o.nodes
                  have o8 := o.limlen
                  omega)⟩
              | exact ur_ret1 G Tryz.func23 rfl rfl ⟨false, rfl, fun q => (by cases q), fun o => (by
                  exfalso
                  have o9 := o.limits x (List.mem_of_getElem? hx)
                  have o10 := o.root
                  have o11 := o.tree i p
                  first
                  | omega
                  | (have e : i = 0 := by omega
                     subst e
                     rw [hp] at o10
                     injection o10 with o10
                     omega)
                  | (have o12 := o11 (by omega) hp
                     omega))⟩
              | exact ur_ret1 G Tryz.func23 rfl rfl ⟨true, rfl, fun _ => (by
                  have hi : i = c.parents.length := by omega
                  exact ⟨by omega, by omega, by omega, by omega, by omega, by omega, by omega, by omega, hlim (by omega), hroot (by omega), fun j q hj hq => htree j q (by have := (List.getElem?_eq_some_iff.1 hq).1; omega) hj hq⟩), fun _ => rfl⟩
            · -- no
              try simp only [decide_eq_true_eq, decide_eq_false_iff_not, Bool.not_eq_true', Bool.not_eq_false', beq_iff_eq, bne_iff_ne, beq_eq_false_iff_ne, bne_eq_false_iff_eq, ne_eq, Decidable.not_not] at hc7
              refine ur_opw rfl rfl rfl rfl rfl (opv_fieldAddr0 rfl rfl rfl ?_)
              refine ur_opw rfl rfl rfl rfl rfl (opv_load1 (by first | exact .inl (Has.has H) | exact .inr (Has.has HR)) rfl rfl rfl ?_)
              refine ur_opw rfl rfl rfl rfl rfl (opv_call rfl rfl rfl (opv_to [] [] H (fun F1 h1 hF HR1 H1 => lw_in) ?_))
              rintro v h1 h ⟨rfl⟩ J
              have H := J (LN := []) trivial
              refine ur_opw rfl rfl rfl rfl rfl (opv_not rfl rfl ?_)
              refine ur_opw rfl rfl rfl rfl rfl (opv_pick rfl rfl rfl ?_)
              refine ur_opw rfl rfl rfl rfl rfl (opv_move rfl rfl ?_)
              refine ur_split 40 rfl (fun hc8 => ?_) (fun hc8 => ?_)
              · -- yes
                try simp only [decide_eq_true_eq, decide_eq_false_iff_not, Bool.not_eq_true', Bool.not_eq_false', beq_iff_eq, bne_iff_ne, beq_eq_false_iff_ne, bne_eq_false_iff_eq, ne_eq, Decidable.not_not] at hc8
                refine ur_pass rfl rfl rfl rfl ?_
                refine ur_pass rfl rfl rfl rfl ?_
                refine ur_pass rfl rfl rfl rfl ?_
                refine ur_pass rfl rfl rfl rfl ?_
                refine ur_opw rfl rfl rfl rfl rfl (opv_pick rfl rfl rfl ?_)
                refine ur_opw rfl rfl rfl rfl rfl (opv_move rfl rfl ?_)
                refine ur_pass rfl rfl rfl rfl ?_
                refine ur_pass rfl rfl rfl rfl ?_
                refine ur_pass rfl rfl rfl rfl ?_
                refine ur_pass rfl rfl rfl rfl ?_
                refine ur_opw rfl rfl rfl rfl rfl (opv_pick rfl rfl rfl ?_)
                refine ur_region_end ?_
                repeat refine ur_seq ?_
                refine ur_condT rfl ?_
                repeat refine ur_seq ?_
                refine ur_region rfl ?_
                refine ur_opw rfl rfl rfl rfl rfl (opv_assign rfl rfl ?_)
                refine ur_region_end ?_
                first
                | exact ur_ret1 G Tryz.func23 rfl rfl ⟨false, rfl, fun q => (by cases q), fun o => (by
                    exfalso
                    have o1 := o.threads
                    have o2 := o.stripes
                    have o3 := o.gate
                    have o4 := o.lease
                    have o5 := o.retry
                    have o6 := o.tickets
                    have o7 := o.nodes
                    have o8 := o.limlen
                    omega)⟩
                | exact ur_ret1 G Tryz.func23 rfl rfl ⟨false, rfl, fun q => (by cases q), fun o => (by
                    exfalso
                    have o9 := o.limits x (List.mem_of_getElem? hx)
                    have o10 := o.root
                    have o11 := o.tree i p
                    first
                    | omega
                    | (have e : i = 0 := by omega
                       subst e
                       rw [hp] at o10
                       injection o10 with o10
                       omega)
                    | (have o12 := o11 (by omega) hp
                       omega))⟩
                | exact ur_ret1 G Tryz.func23 rfl rfl ⟨true, rfl, fun _ => (by
                    have hi : i = c.parents.length := by omega
                    exact ⟨by omega, by omega, by omega, by omega, by omega, by omega, by omega, by omega, hlim (by omega), hroot (by omega), fun j q hj hq => htree j q (by have := (List.getElem?_eq_some_iff.1 hq).1; omega) hj hq⟩), fun _ => rfl⟩
              · -- no
                try simp only [decide_eq_true_eq, decide_eq_false_iff_not, Bool.not_eq_true', Bool.not_eq_false', beq_iff_eq, bne_iff_ne, beq_eq_false_iff_ne, bne_eq_false_iff_eq, ne_eq, Decidable.not_not] at hc8
                refine ur_opw rfl rfl rfl rfl rfl (opv_fieldAddr0 rfl rfl rfl ?_)
                refine ur_opw rfl rfl rfl rfl rfl (opv_load1 (by first | exact .inl (Has.has H) | exact .inr (Has.has HR)) rfl rfl rfl ?_)
                refine ur_opw rfl rfl rfl rfl rfl (opv_call rfl rfl rfl (opv_to [] [] H (fun F1 h1 hF HR1 H1 => lw_in) ?_))
                rintro v h1 h ⟨rfl⟩ J
                have H := J (LN := []) trivial
                refine ur_opw rfl rfl rfl rfl rfl (opv_not rfl rfl ?_)
                refine ur_opw rfl rfl rfl rfl rfl (opv_pick rfl rfl rfl ?_)
                refine ur_opw rfl rfl rfl rfl rfl (opv_move rfl rfl ?_)
                refine ur_split 46 rfl (fun hc9 => ?_) (fun hc9 => ?_)
                · -- yes
                  try simp only [decide_eq_true_eq, decide_eq_false_iff_not, Bool.not_eq_true', Bool.not_eq_false', beq_iff_eq, bne_iff_ne, beq_eq_false_iff_ne, bne_eq_false_iff_eq, ne_eq, Decidable.not_not] at hc9
                  refine ur_pass rfl rfl rfl rfl ?_
                  refine ur_pass rfl rfl rfl rfl ?_
                  refine ur_pass rfl rfl rfl rfl ?_
                  refine ur_pass rfl rfl rfl rfl ?_
                  refine ur_opw rfl rfl rfl rfl rfl (opv_pick rfl rfl rfl ?_)
                  refine ur_region_end ?_
                  repeat refine ur_seq ?_
                  refine ur_condT rfl ?_
                  repeat refine ur_seq ?_
                  refine ur_region rfl ?_
                  refine ur_opw rfl rfl rfl rfl rfl (opv_assign rfl rfl ?_)
                  refine ur_region_end ?_
                  first
                  | exact ur_ret1 G Tryz.func23 rfl rfl ⟨false, rfl, fun q => (by cases q), fun o => (by
                      exfalso
                      have o1 := o.threads
                      have o2 := o.stripes
                      have o3 := o.gate
                      have o4 := o.lease
                      have o5 := o.retry
                      have o6 := o.tickets
                      have o7 := o.nodes
                      have o8 := o.limlen
                      omega)⟩
                  | exact ur_ret1 G Tryz.func23 rfl rfl ⟨false, rfl, fun q => (by cases q), fun o => (by
                      exfalso
                      have o9 := o.limits x (List.mem_of_getElem? hx)
                      have o10 := o.root
                      have o11 := o.tree i p
                      first
                      | omega
                      | (have e : i = 0 := by omega
                         subst e
                         rw [hp] at o10
                         injection o10 with o10
                         omega)
                      | (have o12 := o11 (by omega) hp
                         omega))⟩
                  | exact ur_ret1 G Tryz.func23 rfl rfl ⟨true, rfl, fun _ => (by
                      have hi : i = c.parents.length := by omega
                      exact ⟨by omega, by omega, by omega, by omega, by omega, by omega, by omega, by omega, hlim (by omega), hroot (by omega), fun j q hj hq => htree j q (by have := (List.getElem?_eq_some_iff.1 hq).1; omega) hj hq⟩), fun _ => rfl⟩
                · -- no
                  try simp only [decide_eq_true_eq, decide_eq_false_iff_not, Bool.not_eq_true', Bool.not_eq_false', beq_iff_eq, bne_iff_ne, beq_eq_false_iff_ne, bne_eq_false_iff_eq, ne_eq, Decidable.not_not] at hc9
                  refine ur_opw rfl rfl rfl rfl rfl (opv_fieldAddr0 rfl rfl rfl ?_)
                  refine ur_opw rfl rfl rfl rfl rfl (opv_load1 (by first | exact .inl (Has.has H) | exact .inr (Has.has HR)) rfl rfl rfl ?_)
                  refine ur_opw rfl rfl rfl rfl rfl (opv_call rfl rfl rfl (opv_to [] [] H (fun F1 h1 hF HR1 H1 => lw_in) ?_))
                  rintro v h1 h ⟨rfl⟩ J
                  have H := J (LN := []) trivial
                  refine ur_opw rfl rfl rfl rfl rfl (opv_not rfl rfl ?_)
                  refine ur_opw rfl rfl rfl rfl rfl (opv_pick rfl rfl rfl ?_)
                  refine ur_region_end ?_
                  repeat refine ur_seq ?_
                  refine ur_cond rfl (fun hc10 => ?_) (fun hc10 => ?_)
                  · -- yes
                    try simp only [decide_eq_true_eq, decide_eq_false_iff_not, Bool.not_eq_true', Bool.not_eq_false', beq_iff_eq, bne_iff_ne, beq_eq_false_iff_ne, bne_eq_false_iff_eq, ne_eq, Decidable.not_not] at hc10
                    repeat refine ur_seq ?_
                    refine ur_region rfl ?_
                    refine ur_opw rfl rfl rfl rfl rfl (opv_assign rfl rfl ?_)
                    refine ur_region_end ?_
                    first
                    | exact ur_ret1 G Tryz.func23 rfl rfl ⟨false, rfl, fun q => (by cases q), fun o => (by
                        exfalso
                        have o1 := o.threads
                        have o2 := o.stripes
                        have o3 := o.gate
                        have o4 := o.lease
                        have o5 := o.retry
                        have o6 := o.tickets
                        have o7 := o.nodes
                        have o8 := o.limlen
                        omega)⟩
                    | exact ur_ret1 G Tryz.func23 rfl rfl ⟨false, rfl, fun q => (by cases q), fun o => (by
                        exfalso
                        have o9 := o.limits x (List.mem_of_getElem? hx)
                        have o10 := o.root
                        have o11 := o.tree i p
                        first
                        | omega
                        | (have e : i = 0 := by omega
                           subst e
                           rw [hp] at o10
                           injection o10 with o10
                           omega)
                        | (have o12 := o11 (by omega) hp
                           omega))⟩
                    | exact ur_ret1 G Tryz.func23 rfl rfl ⟨true, rfl, fun _ => (by
                        have hi : i = c.parents.length := by omega
                        exact ⟨by omega, by omega, by omega, by omega, by omega, by omega, by omega, by omega, hlim (by omega), hroot (by omega), fun j q hj hq => htree j q (by have := (List.getElem?_eq_some_iff.1 hq).1; omega) hj hq⟩), fun _ => rfl⟩
                  · -- no
                    try simp only [decide_eq_true_eq, decide_eq_false_iff_not, Bool.not_eq_true', Bool.not_eq_false', beq_iff_eq, bne_iff_ne, beq_eq_false_iff_ne, bne_eq_false_iff_eq, ne_eq, Decidable.not_not] at hc10
                    refine ur_skip ?_
                    repeat refine ur_seq ?_
                    refine ur_region rfl ?_
                    refine ur_opw rfl rfl rfl rfl rfl (opv_fieldAddr0 rfl rfl rfl ?_)
                    refine ur_opw rfl rfl rfl rfl rfl (opv_load1 (by first | exact .inl (Has.has H) | exact .inr (Has.has HR)) rfl rfl rfl ?_)
                    refine ur_opw rfl rfl rfl rfl rfl (opv_len rfl rfl ?_)
                    refine ur_opw rfl rfl rfl rfl rfl (opv_call rfl rfl rfl (opv_to [] [] H (fun F1 h1 hF HR1 H1 => lw_in) ?_))
                    rintro v h1 h ⟨rfl⟩ J
                    have H := J (LN := []) trivial
                    refine ur_opw rfl rfl rfl rfl rfl (opv_not rfl rfl ?_)
                    refine ur_opw rfl rfl rfl rfl rfl (opv_move rfl rfl ?_)
                    refine ur_split 57 rfl (fun hc11 => ?_) (fun hc11 => ?_)
                    · -- yes
                      try simp only [decide_eq_true_eq, decide_eq_false_iff_not, Bool.not_eq_true', Bool.not_eq_false', beq_iff_eq, bne_iff_ne, beq_eq_false_iff_ne, bne_eq_false_iff_eq, ne_eq, Decidable.not_not] at hc11
                      refine ur_pass rfl rfl rfl rfl ?_
                      refine ur_pass rfl rfl rfl rfl ?_
                      refine ur_pass rfl rfl rfl rfl ?_
                      refine ur_pass rfl rfl rfl rfl ?_
                      refine ur_pass rfl rfl rfl rfl ?_
                      refine ur_pass rfl rfl rfl rfl ?_
                      refine ur_pass rfl rfl rfl rfl ?_
                      refine ur_opw rfl rfl rfl rfl rfl (opv_pick rfl rfl rfl ?_)
                      refine ur_region_end ?_
                      repeat refine ur_seq ?_
                      refine ur_condT rfl ?_
                      repeat refine ur_seq ?_
                      refine ur_region rfl ?_
                      refine ur_opw rfl rfl rfl rfl rfl (opv_assign rfl rfl ?_)
                      refine ur_region_end ?_
                      first
                      | exact ur_ret1 G Tryz.func23 rfl rfl ⟨false, rfl, fun q => (by cases q), fun o => (by
                          exfalso
                          have o1 := o.threads
                          have o2 := o.stripes
                          have o3 := o.gate
                          have o4 := o.lease
                          have o5 := o.retry
                          have o6 := o.tickets
                          have o7 := o.nodes
                          have o8 := o.limlen
                          omega)⟩
                      | exact ur_ret1 G Tryz.func23 rfl rfl ⟨false, rfl, fun q => (by cases q), fun o => (by
                          exfalso
                          have o9 := o.limits x (List.mem_of_getElem? hx)
                          have o10 := o.root
                          have o11 := o.tree i p
                          first
                          | omega
                          | (have e : i = 0 := by omega
                             subst e
                             rw [hp] at o10
                             injection o10 with o10
                             omega)
                          | (have o12 := o11 (by omega) hp
                             omega))⟩
                      | exact ur_ret1 G Tryz.func23 rfl rfl ⟨true, rfl, fun _ => (by
                          have hi : i = c.parents.length := by omega
                          exact ⟨by omega, by omega, by omega, by omega, by omega, by omega, by omega, by omega, hlim (by omega), hroot (by omega), fun j q hj hq => htree j q (by have := (List.getElem?_eq_some_iff.1 hq).1; omega) hj hq⟩), fun _ => rfl⟩
                    · -- no
                      try simp only [decide_eq_true_eq, decide_eq_false_iff_not, Bool.not_eq_true', Bool.not_eq_false', beq_iff_eq, bne_iff_ne, beq_eq_false_iff_ne, bne_eq_false_iff_eq, ne_eq, Decidable.not_not] at hc11
                      refine ur_opw rfl rfl rfl rfl rfl (opv_fieldAddr0 rfl rfl rfl ?_)
                      refine ur_opw rfl rfl rfl rfl rfl (opv_load1 (by first | exact .inl (Has.has H) | exact .inr (Has.has HR)) rfl rfl rfl ?_)
                      refine ur_opw rfl rfl rfl rfl rfl (opv_len rfl rfl ?_)
                      refine ur_opw rfl rfl rfl rfl rfl (opv_fieldAddr0 rfl rfl rfl ?_)
                      refine ur_opw rfl rfl rfl rfl rfl (opv_load1 (by first | exact .inl (Has.has H) | exact .inr (Has.has HR)) rfl rfl rfl ?_)
                      refine ur_opw rfl rfl rfl rfl rfl (opv_len rfl rfl ?_)
                      refine ur_opw rfl rfl rfl rfl rfl (opv_cmp rfl rfl rfl rfl ?_)
                      refine ur_opw rfl rfl rfl rfl rfl (opv_pick rfl rfl rfl ?_)
                      refine ur_region_end ?_
                      repeat refine ur_seq ?_
                      refine ur_cond rfl (fun hc12 => ?_) (fun hc12 => ?_)
                      · -- yes
                        try simp only [decide_eq_true_eq, decide_eq_false_iff_not, Bool.not_eq_true', Bool.not_eq_false', beq_iff_eq, bne_iff_ne, beq_eq_false_iff_ne, bne_eq_false_iff_eq, ne_eq, Decidable.not_not] at hc12
                        repeat refine ur_seq ?_
                        refine ur_region rfl ?_
                        refine ur_opw rfl rfl rfl rfl rfl (opv_assign rfl rfl ?_)
                        refine ur_region_end ?_
                        first
                        | exact ur_ret1 G Tryz.func23 rfl rfl ⟨false, rfl, fun q => (by cases q), fun o => (by
                            exfalso
                            have o1 := o.threads
                            have o2 := o.stripes
                            have o3 := o.gate
                            have o4 := o.lease
                            have o5 := o.retry
                            have o6 := o.tickets
                            have o7 := o.nodes
                            have o8 := o.limlen
                            omega)⟩
                        | exact ur_ret1 G Tryz.func23 rfl rfl ⟨false, rfl, fun q => (by cases q), fun o => (by
                            exfalso
                            have o9 := o.limits x (List.mem_of_getElem? hx)
                            have o10 := o.root
                            have o11 := o.tree i p
                            first
                            | omega
                            | (have e : i = 0 := by omega
                               subst e
                               rw [hp] at o10
                               injection o10 with o10
                               omega)
                            | (have o12 := o11 (by omega) hp
                               omega))⟩
                        | exact ur_ret1 G Tryz.func23 rfl rfl ⟨true, rfl, fun _ => (by
                            have hi : i = c.parents.length := by omega
                            exact ⟨by omega, by omega, by omega, by omega, by omega, by omega, by omega, by omega, hlim (by omega), hroot (by omega), fun j q hj hq => htree j q (by have := (List.getElem?_eq_some_iff.1 hq).1; omega) hj hq⟩), fun _ => rfl⟩
                      · -- no
                        try simp only [decide_eq_true_eq, decide_eq_false_iff_not, Bool.not_eq_true', Bool.not_eq_false', beq_iff_eq, bne_iff_ne, beq_eq_false_iff_ne, bne_eq_false_iff_eq, ne_eq, Decidable.not_not] at hc12
                        refine ur_skip ?_
                        repeat refine ur_seq ?_
                        refine ur_region rfl ?_
                        refine ur_opw rfl rfl rfl rfl rfl (opv_assign rfl rfl ?_)
                        refine ur_region_end ?_
                        repeat refine ur_seq ?_
                        refine ur_block ?_
                        refine ur_sub (l' := [(3, .int .i64 (0 : Nat)), (1, .pointer (some ⟨b1, 0, none⟩))]) ⟨rfl, rfl, trivial⟩ ?_
                        refine ur_loop_inv (n := c.parents.length) (fun n l h => ∃ (i : Nat), l = [(3, .int .i64 (i : Nat)), (1, .pointer (some ⟨b1, 0, none⟩))] ∧ n + i = c.parents.length ∧ (∀ j v, j < i → c.limits[j]? = some v → 0 ≤ v ∧ v ≤ 1099511627776) ∧ (0 < i → c.parents[0]? = some (-1)) ∧ (∀ (j : Nat) (q : Int), j < i → 0 < j → c.parents[j]? = some q → 0 ≤ q ∧ q < j) ∧ Own [pt b1 (.cells (cfv c A).toArray 24 (0, 0))] h) ⟨0, rfl, by omega, fun j v hj => by omega, fun hj => by omega, fun j q hj => by omega, H.keep [0]⟩ ?_
                        rintro n ih l h ⟨i, rfl, hn, hl0, hr0, ht0, H⟩
                        repeat refine ur_seq ?_
                        refine ur_region rfl ?_
                        refine ur_opw rfl rfl rfl rfl rfl (opv_move rfl rfl ?_)
                        refine ur_opw rfl rfl rfl rfl rfl (opv_fieldAddr0 rfl rfl rfl ?_)
                        refine ur_opw rfl rfl rfl rfl rfl (opv_load1 (by first | exact .inl (Has.has H) | exact .inr (Has.has HR)) rfl rfl rfl ?_)
                        refine ur_opw rfl rfl rfl rfl rfl (opv_len rfl rfl ?_)
                        refine ur_opw rfl rfl rfl rfl rfl (opv_cmp rfl rfl rfl rfl ?_)
                        refine ur_region_end ?_
                        repeat refine ur_seq ?_
                        refine ur_cond rfl (fun hc13 => ?_) (fun hc13 => ?_)
                        · -- yes
                          try simp only [decide_eq_true_eq, decide_eq_false_iff_not, Bool.not_eq_true', Bool.not_eq_false', beq_iff_eq, bne_iff_ne, beq_eq_false_iff_ne, bne_eq_false_iff_eq, ne_eq, Decidable.not_not] at hc13
                          have hi : i < c.parents.length := by omega
                          obtain ⟨x, hx⟩ : ∃ x, c.limits[i]? = some x := ⟨_, List.getElem?_eq_getElem (by omega)⟩
                          obtain ⟨p, hp⟩ : ∃ p, c.parents[i]? = some p := ⟨_, List.getElem?_eq_getElem hi⟩
                          obtain ⟨lb, loff, lcs, lT, lfr, ela, hlb, hlv⟩ := R.l.at hx
                          obtain ⟨pb, poff, pcs, pT, pfr, epa, hpb, hpv⟩ := R.p.at hp
                          refine ur_skip ?_
                          repeat refine ur_seq ?_
                          refine ur_block ?_
                          repeat refine ur_seq ?_
                          refine ur_region rfl ?_
                          refine ur_opw rfl rfl rfl rfl rfl (opv_fieldAddr0 rfl rfl rfl ?_)
                          refine ur_opw rfl rfl rfl rfl rfl (opv_load1 (by first | exact .inl (Has.has H) | exact .inr (Has.has HR)) rfl rfl (show (cfv c A)[7]? = some (.slice (some ⟨lb, loff, none⟩) c.limits.length A.lc) from by simp [cfv, ela]) ?_)
                          refine ur_opw rfl rfl rfl rfl rfl (opv_move rfl rfl ?_)
                          refine ur_opw rfl rfl rfl rfl rfl (opv_indexAt (r := loff + i) rfl rfl rfl ⟨by omega, by omega⟩ (by simp) ?_)
                          refine ur_opw rfl rfl rfl rfl rfl (opv_load1 (.inr hlb) rfl rfl hlv ?_)
                          refine ur_opw rfl rfl rfl rfl rfl (opv_call rfl rfl rfl (opv_to [] [] H (fun F1 h1 hF HR1 H1 => lw_in) ?_))
                          rintro v h1 h ⟨rfl⟩ J
                          have H := J (LN := []) trivial
                          refine ur_opw rfl rfl rfl rfl rfl (opv_not rfl rfl ?_)
                          refine ur_opw rfl rfl rfl rfl rfl (opv_move rfl rfl ?_)
                          refine ur_split 80 rfl (fun hc14 => ?_) (fun hc14 => ?_)
                          · -- yes
                            try simp only [decide_eq_true_eq, decide_eq_false_iff_not, Bool.not_eq_true', Bool.not_eq_false', beq_iff_eq, bne_iff_ne, beq_eq_false_iff_ne, bne_eq_false_iff_eq, ne_eq, Decidable.not_not] at hc14
                            refine ur_pass rfl rfl rfl rfl ?_
                            refine ur_pass rfl rfl rfl rfl ?_
                            refine ur_pass rfl rfl rfl rfl ?_
                            refine ur_pass rfl rfl rfl rfl ?_
                            refine ur_pass rfl rfl rfl rfl ?_
                            refine ur_pass rfl rfl rfl rfl ?_
                            refine ur_pass rfl rfl rfl rfl ?_
                            refine ur_pass rfl rfl rfl rfl ?_
                            refine ur_pass rfl rfl rfl rfl ?_
                            refine ur_pass rfl rfl rfl rfl ?_
                            refine ur_opw rfl rfl rfl rfl rfl (opv_pick rfl rfl rfl ?_)
                            refine ur_opw rfl rfl rfl rfl rfl (opv_move rfl rfl ?_)
                            refine ur_pass rfl rfl rfl rfl ?_
                            refine ur_pass rfl rfl rfl rfl ?_
                            refine ur_pass rfl rfl rfl rfl ?_
                            refine ur_pass rfl rfl rfl rfl ?_
                            refine ur_pass rfl rfl rfl rfl ?_
                            refine ur_pass rfl rfl rfl rfl ?_
                            refine ur_pass rfl rfl rfl rfl ?_
                            refine ur_pass rfl rfl rfl rfl ?_
                            refine ur_pass rfl rfl rfl rfl ?_
                            refine ur_pass rfl rfl rfl rfl ?_
                            refine ur_pass rfl rfl rfl rfl ?_
                            refine ur_pass rfl rfl rfl rfl ?_
                            refine ur_pass rfl rfl rfl rfl ?_
                            refine ur_opw rfl rfl rfl rfl rfl (opv_pick rfl rfl rfl ?_)
                            refine ur_region_end ?_
                            refine ur_condT rfl ?_
                            repeat refine ur_seq ?_
                            refine ur_region rfl ?_
                            refine ur_opw rfl rfl rfl rfl rfl (opv_assign rfl rfl ?_)
                            refine ur_region_end ?_
                            first
                            | exact ur_ret1 G Tryz.func23 rfl rfl ⟨false, rfl, fun q => (by cases q), fun o => (by
                                exfalso
                                have o1 := o.threads
                                have o2 := o.stripes
                                have o3 := o.gate
                                have o4 := o.lease
                                have o5 := o.retry
                                have o6 := o.tickets
                                have o7 := o.nodes
                                have o8 := o.limlen
                                omega)⟩
                            | exact ur_ret1 G Tryz.func23 rfl rfl ⟨false, rfl, fun q => (by cases q), fun o => (by
                                exfalso
                                have o9 := o.limits x (List.mem_of_getElem? hx)
                                have o10 := o.root
                                have o11 := o.tree i p
                                first
                                | omega
                                | (have e : i = 0 := by omega
                                   subst e
                                   rw [hp] at o10
                                   injection o10 with o10
                                   omega)
                                | (have o12 := o11 (by omega) hp
                                   omega))⟩
                            | exact ur_ret1 G Tryz.func23 rfl rfl ⟨true, rfl, fun _ => (by
                                have hi : i = c.parents.length := by omega
                                exact ⟨by omega, by omega, by omega, by omega, by omega, by omega, by omega, by omega, hlim (by omega), hroot (by omega), fun j q hj hq => htree j q (by have := (List.getElem?_eq_some_iff.1 hq).1; omega) hj hq⟩), fun _ => rfl⟩
                          · -- no
                            try simp only [decide_eq_true_eq, decide_eq_false_iff_not, Bool.not_eq_true', Bool.not_eq_false', beq_iff_eq, bne_iff_ne, beq_eq_false_iff_ne, bne_eq_false_iff_eq, ne_eq, Decidable.not_not] at hc14
                            refine ur_opw rfl rfl rfl rfl rfl (opv_move rfl rfl ?_)
                            refine ur_opw rfl rfl rfl rfl rfl (opv_cmp rfl rfl rfl rfl ?_)
                            refine ur_opw rfl rfl rfl rfl rfl (opv_move rfl rfl ?_)
                            refine ur_split 83 rfl (fun hc15 => ?_) (fun hc15 => ?_)
                            · -- yes
                              try simp only [decide_eq_true_eq, decide_eq_false_iff_not, Bool.not_eq_true', Bool.not_eq_false', beq_iff_eq, bne_iff_ne, beq_eq_false_iff_ne, bne_eq_false_iff_eq, ne_eq, Decidable.not_not] at hc15
                              refine ur_opw rfl rfl rfl rfl rfl (opv_fieldAddr0 rfl rfl rfl ?_)
                              refine ur_opw rfl rfl rfl rfl rfl (opv_load1 (by first | exact .inl (Has.has H) | exact .inr (Has.has HR)) rfl rfl (show (cfv c A)[6]? = some (.slice (some ⟨pb, poff, none⟩) c.parents.length A.pc) from by simp [cfv, epa]) ?_)
                              refine ur_opw rfl rfl rfl rfl rfl (opv_move rfl rfl ?_)
                              refine ur_opw rfl rfl rfl rfl rfl (opv_indexAt (r := poff + i) rfl rfl rfl ⟨by omega, by omega⟩ (by simp) ?_)
                              refine ur_opw rfl rfl rfl rfl rfl (opv_load1 (.inr hpb) rfl rfl hpv ?_)
                              refine ur_opw rfl rfl rfl rfl rfl (opv_cmp rfl rfl rfl rfl ?_)
                              refine ur_opw rfl rfl rfl rfl rfl (opv_pick rfl rfl rfl ?_)
                              refine ur_opw rfl rfl rfl rfl rfl (opv_pick rfl rfl rfl ?_)
                              refine ur_opw rfl rfl rfl rfl rfl (opv_move rfl rfl ?_)
                              refine ur_split 92 rfl (fun hc16 => ?_) (fun hc16 => ?_)
                              · -- yes
                                try simp only [decide_eq_true_eq, decide_eq_false_iff_not, Bool.not_eq_true', Bool.not_eq_false', beq_iff_eq, bne_iff_ne, beq_eq_false_iff_ne, bne_eq_false_iff_eq, ne_eq, Decidable.not_not] at hc16
                                refine ur_pass rfl rfl rfl rfl ?_
                                refine ur_pass rfl rfl rfl rfl ?_
                                refine ur_pass rfl rfl rfl rfl ?_
                                refine ur_pass rfl rfl rfl rfl ?_
                                refine ur_pass rfl rfl rfl rfl ?_
                                refine ur_pass rfl rfl rfl rfl ?_
                                refine ur_pass rfl rfl rfl rfl ?_
                                refine ur_pass rfl rfl rfl rfl ?_
                                refine ur_pass rfl rfl rfl rfl ?_
                                refine ur_pass rfl rfl rfl rfl ?_
                                refine ur_pass rfl rfl rfl rfl ?_
                                refine ur_pass rfl rfl rfl rfl ?_
                                refine ur_pass rfl rfl rfl rfl ?_
                                refine ur_opw rfl rfl rfl rfl rfl (opv_pick rfl rfl rfl ?_)
                                refine ur_region_end ?_
                                refine ur_condT rfl ?_
                                repeat refine ur_seq ?_
                                refine ur_region rfl ?_
                                refine ur_opw rfl rfl rfl rfl rfl (opv_assign rfl rfl ?_)
                                refine ur_region_end ?_
                                first
                                | exact ur_ret1 G Tryz.func23 rfl rfl ⟨false, rfl, fun q => (by cases q), fun o => (by
                                    exfalso
                                    have o1 := o.threads
                                    have o2 := o.stripes
                                    have o3 := o.gate
                                    have o4 := o.lease
                                    have o5 := o.retry
                                    have o6 := o.tickets
                                    have o7 := o.nodes
                                    have o8 := o.limlen
                                    omega)⟩
                                | exact ur_ret1 G Tryz.func23 rfl rfl ⟨false, rfl, fun q => (by cases q), fun o => (by
                                    exfalso
                                    have o9 := o.limits x (List.mem_of_getElem? hx)
                                    have o10 := o.root
                                    have o11 := o.tree i p
                                    first
                                    | omega
                                    | (have e : i = 0 := by omega
                                       subst e
                                       rw [hp] at o10
                                       injection o10 with o10
                                       omega)
                                    | (have o12 := o11 (by omega) hp
                                       omega))⟩
                                | exact ur_ret1 G Tryz.func23 rfl rfl ⟨true, rfl, fun _ => (by
                                    have hi : i = c.parents.length := by omega
                                    exact ⟨by omega, by omega, by omega, by omega, by omega, by omega, by omega, by omega, hlim (by omega), hroot (by omega), fun j q hj hq => htree j q (by have := (List.getElem?_eq_some_iff.1 hq).1; omega) hj hq⟩), fun _ => rfl⟩
                              · -- no
                                try simp only [decide_eq_true_eq, decide_eq_false_iff_not, Bool.not_eq_true', Bool.not_eq_false', beq_iff_eq, bne_iff_ne, beq_eq_false_iff_ne, bne_eq_false_iff_eq, ne_eq, Decidable.not_not] at hc16
                                refine ur_opw rfl rfl rfl rfl rfl (opv_move rfl rfl ?_)
                                refine ur_opw rfl rfl rfl rfl rfl (opv_cmp rfl rfl rfl rfl ?_)
                                refine ur_opw rfl rfl rfl rfl rfl (opv_move rfl rfl ?_)
                                refine ur_split 95 rfl (fun hc17 => ?_) (fun hc17 => ?_)
                                · -- yes
                                  try simp only [decide_eq_true_eq, decide_eq_false_iff_not, Bool.not_eq_true', Bool.not_eq_false', beq_iff_eq, bne_iff_ne, beq_eq_false_iff_ne, bne_eq_false_iff_eq, ne_eq, Decidable.not_not] at hc17
                                  refine ur_opw rfl rfl rfl rfl rfl (opv_fieldAddr0 rfl rfl rfl ?_)
                                  refine ur_opw rfl rfl rfl rfl rfl (opv_load1 (by first | exact .inl (Has.has H) | exact .inr (Has.has HR)) rfl rfl (show (cfv c A)[6]? = some (.slice (some ⟨pb, poff, none⟩) c.parents.length A.pc) from by simp [cfv, epa]) ?_)
                                  refine ur_opw rfl rfl rfl rfl rfl (opv_move rfl rfl ?_)
                                  refine ur_opw rfl rfl rfl rfl rfl (opv_indexAt (r := poff + i) rfl rfl rfl ⟨by omega, by omega⟩ (by simp) ?_)
                                  refine ur_opw rfl rfl rfl rfl rfl (opv_load1 (.inr hpb) rfl rfl hpv ?_)
                                  refine ur_opw rfl rfl rfl rfl rfl (opv_move rfl rfl ?_)
                                  refine ur_opw rfl rfl rfl rfl rfl (opv_arith rfl rfl rfl rfl (by first | exact wi (by omega) | rfl) ?_)
                                  refine ur_opw rfl rfl rfl rfl rfl (opv_call rfl rfl rfl (opv_to [] [] H (fun F1 h1 hF HR1 H1 => lw_in) ?_))
                                  rintro v h1 h ⟨rfl⟩ J
                                  have H := J (LN := []) trivial
                                  refine ur_opw rfl rfl rfl rfl rfl (opv_not rfl rfl ?_)
                                  refine ur_opw rfl rfl rfl rfl rfl (opv_pick rfl rfl rfl ?_)
                                  refine ur_opw rfl rfl rfl rfl rfl (opv_pick rfl rfl rfl ?_)
                                  refine ur_region_end ?_
                                  refine ur_cond rfl (fun hc18 => ?_) (fun hc18 => ?_)
                                  · -- yes
                                    try simp only [decide_eq_true_eq, decide_eq_false_iff_not, Bool.not_eq_true', Bool.not_eq_false', beq_iff_eq, bne_iff_ne, beq_eq_false_iff_ne, bne_eq_false_iff_eq, ne_eq, Decidable.not_not] at hc18
                                    repeat refine ur_seq ?_
                                    refine ur_region rfl ?_
                                    refine ur_opw rfl rfl rfl rfl rfl (opv_assign rfl rfl ?_)
                                    refine ur_region_end ?_
                                    first
                                    | exact ur_ret1 G Tryz.func23 rfl rfl ⟨false, rfl, fun q => (by cases q), fun o => (by
                                        exfalso
                                        have o1 := o.threads
                                        have o2 := o.stripes
                                        have o3 := o.gate
                                        have o4 := o.lease
                                        have o5 := o.retry
                                        have o6 := o.tickets
                                        have o7 := o.nodes
                                        have o8 := o.limlen
                                        omega)⟩
                                    | exact ur_ret1 G Tryz.func23 rfl rfl ⟨false, rfl, fun q => (by cases q), fun o => (by
                                        exfalso
                                        have o9 := o.limits x (List.mem_of_getElem? hx)
                                        have o10 := o.root
                                        have o11 := o.tree i p
                                        first
                                        | omega
                                        | (have e : i = 0 := by omega
                                           subst e
                                           rw [hp] at o10
                                           injection o10 with o10
                                           omega)
                                        | (have o12 := o11 (by omega) hp
                                           omega))⟩
                                    | exact ur_ret1 G Tryz.func23 rfl rfl ⟨true, rfl, fun _ => (by
                                        have hi : i = c.parents.length := by omega
                                        exact ⟨by omega, by omega, by omega, by omega, by omega, by omega, by omega, by omega, hlim (by omega), hroot (by omega), fun j q hj hq => htree j q (by have := (List.getElem?_eq_some_iff.1 hq).1; omega) hj hq⟩), fun _ => rfl⟩
                                  · -- no
                                    try simp only [decide_eq_true_eq, decide_eq_false_iff_not, Bool.not_eq_true', Bool.not_eq_false', beq_iff_eq, bne_iff_ne, beq_eq_false_iff_ne, bne_eq_false_iff_eq, ne_eq, Decidable.not_not] at hc18
                                    refine ur_skip ?_
                                    refine ur_inBlock ?_
                                    refine ur_region rfl ?_
                                    refine ur_opw rfl rfl rfl rfl rfl (opv_move rfl rfl ?_)
                                    refine ur_opw rfl rfl rfl rfl rfl (opv_arith rfl rfl rfl rfl (by first | exact wi (by omega) | rfl) ?_)
                                    refine ur_opw rfl rfl rfl rfl rfl (opv_assign rfl rfl ?_)
                                    refine ur_region_end ?_
                                    refine ur_sub (l' := [(3, .int .i64 (i + 1 : Nat)), (1, .pointer (some ⟨b1, 0, none⟩))]) ⟨rfl, rfl, trivial⟩ ?_
                                    refine ih (n - 1) _ _ (by omega) ⟨i + 1, rfl, by omega, ?_, ?_, ?_, H.keep [0]⟩
                                    · intro j v hj hv
                                      by_cases e : j = i
                                      · subst e; rw [hx] at hv; cases hv; omega
                                      · exact hl0 j v (by omega) hv
                                    · intro _
                                      by_cases e : i = 0
                                      · subst e; rw [hp, show p = -1 from by omega]
                                      · exact hr0 (by omega)
                                    · intro j q hj hj0 hq
                                      by_cases e : j = i
                                      · subst e; rw [hp] at hq; cases hq; omega
                                      · exact ht0 j q (by omega) hj0 hq
                                · -- no
                                  try simp only [decide_eq_true_eq, decide_eq_false_iff_not, Bool.not_eq_true', Bool.not_eq_false', beq_iff_eq, bne_iff_ne, beq_eq_false_iff_ne, bne_eq_false_iff_eq, ne_eq, Decidable.not_not] at hc17
                                  refine ur_pass rfl rfl rfl rfl ?_
                                  refine ur_pass rfl rfl rfl rfl ?_
                                  refine ur_pass rfl rfl rfl rfl ?_
                                  refine ur_pass rfl rfl rfl rfl ?_
                                  refine ur_pass rfl rfl rfl rfl ?_
                                  refine ur_pass rfl rfl rfl rfl ?_
                                  refine ur_pass rfl rfl rfl rfl ?_
                                  refine ur_pass rfl rfl rfl rfl ?_
                                  refine ur_pass rfl rfl rfl rfl ?_
                                  refine ur_opw rfl rfl rfl rfl rfl (opv_pick rfl rfl rfl ?_)
                                  refine ur_opw rfl rfl rfl rfl rfl (opv_pick rfl rfl rfl ?_)
                                  refine ur_region_end ?_
                                  refine ur_condF rfl ?_
                                  refine ur_skip ?_
                                  refine ur_inBlock ?_
                                  refine ur_region rfl ?_
                                  refine ur_opw rfl rfl rfl rfl rfl (opv_move rfl rfl ?_)
                                  refine ur_opw rfl rfl rfl rfl rfl (opv_arith rfl rfl rfl rfl (by first | exact wi (by omega) | rfl) ?_)
                                  refine ur_opw rfl rfl rfl rfl rfl (opv_assign rfl rfl ?_)
                                  refine ur_region_end ?_
                                  refine ur_sub (l' := [(3, .int .i64 (i + 1 : Nat)), (1, .pointer (some ⟨b1, 0, none⟩))]) ⟨rfl, rfl, trivial⟩ ?_
                                  refine ih (n - 1) _ _ (by omega) ⟨i + 1, rfl, by omega, ?_, ?_, ?_, H.keep [0]⟩
                                  · intro j v hj hv
                                    by_cases e : j = i
                                    · subst e; rw [hx] at hv; cases hv; omega
                                    · exact hl0 j v (by omega) hv
                                  · intro _
                                    by_cases e : i = 0
                                    · subst e; rw [hp, show p = -1 from by omega]
                                    · exact hr0 (by omega)
                                  · intro j q hj hj0 hq
                                    by_cases e : j = i
                                    · subst e; rw [hp] at hq; cases hq; omega
                                    · exact ht0 j q (by omega) hj0 hq
                            · -- no
                              try simp only [decide_eq_true_eq, decide_eq_false_iff_not, Bool.not_eq_true', Bool.not_eq_false', beq_iff_eq, bne_iff_ne, beq_eq_false_iff_ne, bne_eq_false_iff_eq, ne_eq, Decidable.not_not] at hc15
                              refine ur_pass rfl rfl rfl rfl ?_
                              refine ur_pass rfl rfl rfl rfl ?_
                              refine ur_pass rfl rfl rfl rfl ?_
                              refine ur_pass rfl rfl rfl rfl ?_
                              refine ur_pass rfl rfl rfl rfl ?_
                              refine ur_pass rfl rfl rfl rfl ?_
                              refine ur_opw rfl rfl rfl rfl rfl (opv_pick rfl rfl rfl ?_)
                              refine ur_opw rfl rfl rfl rfl rfl (opv_pick rfl rfl rfl ?_)
                              refine ur_opw rfl rfl rfl rfl rfl (opv_move rfl rfl ?_)
                              refine ur_opw rfl rfl rfl rfl rfl (opv_move rfl rfl ?_)
                              refine ur_opw rfl rfl rfl rfl rfl (opv_cmp rfl rfl rfl rfl ?_)
                              refine ur_opw rfl rfl rfl rfl rfl (opv_move rfl rfl ?_)
                              refine ur_split 95 rfl (fun hc19 => ?_) (fun hc19 => ?_)
                              · -- yes
                                try simp only [decide_eq_true_eq, decide_eq_false_iff_not, Bool.not_eq_true', Bool.not_eq_false', beq_iff_eq, bne_iff_ne, beq_eq_false_iff_ne, bne_eq_false_iff_eq, ne_eq, Decidable.not_not] at hc19
                                refine ur_opw rfl rfl rfl rfl rfl (opv_fieldAddr0 rfl rfl rfl ?_)
                                refine ur_opw rfl rfl rfl rfl rfl (opv_load1 (by first | exact .inl (Has.has H) | exact .inr (Has.has HR)) rfl rfl (show (cfv c A)[6]? = some (.slice (some ⟨pb, poff, none⟩) c.parents.length A.pc) from by simp [cfv, epa]) ?_)
                                refine ur_opw rfl rfl rfl rfl rfl (opv_move rfl rfl ?_)
                                refine ur_opw rfl rfl rfl rfl rfl (opv_indexAt (r := poff + i) rfl rfl rfl ⟨by omega, by omega⟩ (by simp) ?_)
                                refine ur_opw rfl rfl rfl rfl rfl (opv_load1 (.inr hpb) rfl rfl hpv ?_)
                                refine ur_opw rfl rfl rfl rfl rfl (opv_move rfl rfl ?_)
                                refine ur_opw rfl rfl rfl rfl rfl (opv_arith rfl rfl rfl rfl (by first | exact wi (by omega) | rfl) ?_)
                                refine ur_opw rfl rfl rfl rfl rfl (opv_call rfl rfl rfl (opv_to [] [] H (fun F1 h1 hF HR1 H1 => lw_in) ?_))
                                rintro v h1 h ⟨rfl⟩ J
                                have H := J (LN := []) trivial
                                refine ur_opw rfl rfl rfl rfl rfl (opv_not rfl rfl ?_)
                                refine ur_opw rfl rfl rfl rfl rfl (opv_pick rfl rfl rfl ?_)
                                refine ur_opw rfl rfl rfl rfl rfl (opv_pick rfl rfl rfl ?_)
                                refine ur_region_end ?_
                                refine ur_cond rfl (fun hc20 => ?_) (fun hc20 => ?_)
                                · -- yes
                                  try simp only [decide_eq_true_eq, decide_eq_false_iff_not, Bool.not_eq_true', Bool.not_eq_false', beq_iff_eq, bne_iff_ne, beq_eq_false_iff_ne, bne_eq_false_iff_eq, ne_eq, Decidable.not_not] at hc20
                                  repeat refine ur_seq ?_
                                  refine ur_region rfl ?_
                                  refine ur_opw rfl rfl rfl rfl rfl (opv_assign rfl rfl ?_)
                                  refine ur_region_end ?_
                                  first
                                  | exact ur_ret1 G Tryz.func23 rfl rfl ⟨false, rfl, fun q => (by cases q), fun o => (by
                                      exfalso
                                      have o1 := o.threads
                                      have o2 := o.stripes
                                      have o3 := o.gate
                                      have o4 := o.lease
                                      have o5 := o.retry
                                      have o6 := o.tickets
                                      have o7 := o.nodes
                                      have o8 := o.limlen
                                      omega)⟩
                                  | exact ur_ret1 G Tryz.func23 rfl rfl ⟨false, rfl, fun q => (by cases q), fun o => (by
                                      exfalso
                                      have o9 := o.limits x (List.mem_of_getElem? hx)
                                      have o10 := o.root
                                      have o11 := o.tree i p
                                      first
                                      | omega
                                      | (have e : i = 0 := by omega
                                         subst e
                                         rw [hp] at o10
                                         injection o10 with o10
                                         omega)
                                      | (have o12 := o11 (by omega) hp
                                         omega))⟩
                                  | exact ur_ret1 G Tryz.func23 rfl rfl ⟨true, rfl, fun _ => (by
                                      have hi : i = c.parents.length := by omega
                                      exact ⟨by omega, by omega, by omega, by omega, by omega, by omega, by omega, by omega, hlim (by omega), hroot (by omega), fun j q hj hq => htree j q (by have := (List.getElem?_eq_some_iff.1 hq).1; omega) hj hq⟩), fun _ => rfl⟩
                                · -- no
                                  try simp only [decide_eq_true_eq, decide_eq_false_iff_not, Bool.not_eq_true', Bool.not_eq_false', beq_iff_eq, bne_iff_ne, beq_eq_false_iff_ne, bne_eq_false_iff_eq, ne_eq, Decidable.not_not] at hc20
                                  refine ur_skip ?_
                                  refine ur_inBlock ?_
                                  refine ur_region rfl ?_
                                  refine ur_opw rfl rfl rfl rfl rfl (opv_move rfl rfl ?_)
                                  refine ur_opw rfl rfl rfl rfl rfl (opv_arith rfl rfl rfl rfl (by first | exact wi (by omega) | rfl) ?_)
                                  refine ur_opw rfl rfl rfl rfl rfl (opv_assign rfl rfl ?_)
                                  refine ur_region_end ?_
                                  refine ur_sub (l' := [(3, .int .i64 (i + 1 : Nat)), (1, .pointer (some ⟨b1, 0, none⟩))]) ⟨rfl, rfl, trivial⟩ ?_
                                  refine ih (n - 1) _ _ (by omega) ⟨i + 1, rfl, by omega, ?_, ?_, ?_, H.keep [0]⟩
                                  · intro j v hj hv
                                    by_cases e : j = i
                                    · subst e; rw [hx] at hv; cases hv; omega
                                    · exact hl0 j v (by omega) hv
                                  · intro _
                                    by_cases e : i = 0
                                    · subst e; rw [hp, show p = -1 from by omega]
                                    · exact hr0 (by omega)
                                  · intro j q hj hj0 hq
                                    by_cases e : j = i
                                    · subst e; rw [hp] at hq; cases hq; omega
                                    · exact ht0 j q (by omega) hj0 hq
                              · -- no
                                try simp only [decide_eq_true_eq, decide_eq_false_iff_not, Bool.not_eq_true', Bool.not_eq_false', beq_iff_eq, bne_iff_ne, beq_eq_false_iff_ne, bne_eq_false_iff_eq, ne_eq, Decidable.not_not] at hc19
                                refine ur_pass rfl rfl rfl rfl ?_
                                refine ur_pass rfl rfl rfl rfl ?_
                                refine ur_pass rfl rfl rfl rfl ?_
                                refine ur_pass rfl rfl rfl rfl ?_
                                refine ur_pass rfl rfl rfl rfl ?_
                                refine ur_pass rfl rfl rfl rfl ?_
                                refine ur_pass rfl rfl rfl rfl ?_
                                refine ur_pass rfl rfl rfl rfl ?_
                                refine ur_pass rfl rfl rfl rfl ?_
                                refine ur_opw rfl rfl rfl rfl rfl (opv_pick rfl rfl rfl ?_)
                                refine ur_opw rfl rfl rfl rfl rfl (opv_pick rfl rfl rfl ?_)
                                refine ur_region_end ?_
                                refine ur_condF rfl ?_
                                refine ur_skip ?_
                                refine ur_inBlock ?_
                                refine ur_region rfl ?_
                                refine ur_opw rfl rfl rfl rfl rfl (opv_move rfl rfl ?_)
                                refine ur_opw rfl rfl rfl rfl rfl (opv_arith rfl rfl rfl rfl (by first | exact wi (by omega) | rfl) ?_)
                                refine ur_opw rfl rfl rfl rfl rfl (opv_assign rfl rfl ?_)
                                refine ur_region_end ?_
                                refine ur_sub (l' := [(3, .int .i64 (i + 1 : Nat)), (1, .pointer (some ⟨b1, 0, none⟩))]) ⟨rfl, rfl, trivial⟩ ?_
                                refine ih (n - 1) _ _ (by omega) ⟨i + 1, rfl, by omega, ?_, ?_, ?_, H.keep [0]⟩
                                · intro j v hj hv
                                  by_cases e : j = i
                                  · subst e; rw [hx] at hv; cases hv; omega
                                  · exact hl0 j v (by omega) hv
                                · intro _
                                  by_cases e : i = 0
                                  · subst e; rw [hp, show p = -1 from by omega]
                                  · exact hr0 (by omega)
                                · intro j q hj hj0 hq
                                  by_cases e : j = i
                                  · subst e; rw [hp] at hq; cases hq; omega
                                  · exact ht0 j q (by omega) hj0 hq
                        · -- no
                          try simp only [decide_eq_true_eq, decide_eq_false_iff_not, Bool.not_eq_true', Bool.not_eq_false', beq_iff_eq, bne_iff_ne, beq_eq_false_iff_ne, bne_eq_false_iff_eq, ne_eq, Decidable.not_not] at hc13
                          have hlim : i = c.parents.length → ∀ v ∈ c.limits, 0 ≤ v ∧ v ≤ 1099511627776 := fun e v hv => by
                            obtain ⟨j, hj⟩ := List.mem_iff_getElem?.1 hv
                            exact hl0 j v (by have := (List.getElem?_eq_some_iff.1 hj).1; omega) hj
                          have hroot : 0 < i → c.parents[0]? = some (-1) := hr0
                          have htree := ht0
                          refine ur_exit rfl ?_
                          repeat refine ur_seq ?_
                          refine ur_region rfl ?_
                          refine ur_opw rfl rfl rfl rfl rfl (opv_assign rfl rfl ?_)
                          refine ur_region_end ?_
                          first
                          | exact ur_ret1 G Tryz.func23 rfl rfl ⟨false, rfl, fun q => (by cases q), fun o => (by
                              exfalso
                              have o1 := o.threads
                              have o2 := o.stripes
                              have o3 := o.gate
                              have o4 := o.lease
                              have o5 := o.retry
                              have o6 := o.tickets
                              have o7 := o.nodes
                              have o8 := o.limlen
                              omega)⟩
                          | exact ur_ret1 G Tryz.func23 rfl rfl ⟨false, rfl, fun q => (by cases q), fun o => (by
                              exfalso
                              have o9 := o.limits x (List.mem_of_getElem? hx)
                              have o10 := o.root
                              have o11 := o.tree i p
                              first
                              | omega
                              | (have e : i = 0 := by omega
                                 subst e
                                 rw [hp] at o10
                                 injection o10 with o10
                                 omega)
                              | (have o12 := o11 (by omega) hp
                                 omega))⟩
                          | exact ur_ret1 G Tryz.func23 rfl rfl ⟨true, rfl, fun _ => (by
                              have hi : i = c.parents.length := by omega
                              exact ⟨by omega, by omega, by omega, by omega, by omega, by omega, by omega, by omega, hlim (by omega), hroot (by omega), fun j q hj hq => htree j q (by have := (List.getElem?_eq_some_iff.1 hq).1; omega) hj hq⟩), fun _ => rfl⟩
        · -- no
          try simp only [decide_eq_true_eq, decide_eq_false_iff_not, Bool.not_eq_true', Bool.not_eq_false', beq_iff_eq, bne_iff_ne, beq_eq_false_iff_ne, bne_eq_false_iff_eq, ne_eq, Decidable.not_not] at hc5
          refine ur_pass rfl rfl rfl rfl ?_
          refine ur_pass rfl rfl rfl rfl ?_
          refine ur_pass rfl rfl rfl rfl ?_
          refine ur_opw rfl rfl rfl rfl rfl (opv_pick rfl rfl rfl ?_)
          refine ur_opw rfl rfl rfl rfl rfl (opv_pick rfl rfl rfl ?_)
          refine ur_opw rfl rfl rfl rfl rfl (opv_move rfl rfl ?_)
          refine ur_opw rfl rfl rfl rfl rfl (opv_fieldAddr0 rfl rfl rfl ?_)
          refine ur_opw rfl rfl rfl rfl rfl (opv_load1 (by first | exact .inl (Has.has H) | exact .inr (Has.has HR)) rfl rfl rfl ?_)
          refine ur_opw rfl rfl rfl rfl rfl (opv_call rfl rfl rfl (opv_to [] [] H (fun F1 h1 hF HR1 H1 => lw_in) ?_))
          rintro v h1 h ⟨rfl⟩ J
          have H := J (LN := []) trivial
          refine ur_opw rfl rfl rfl rfl rfl (opv_not rfl rfl ?_)
          refine ur_opw rfl rfl rfl rfl rfl (opv_pick rfl rfl rfl ?_)
          refine ur_opw rfl rfl rfl rfl rfl (opv_move rfl rfl ?_)
          refine ur_split 34 rfl (fun hc21 => ?_) (fun hc21 => ?_)
          · -- yes
            try simp only [decide_eq_true_eq, decide_eq_false_iff_not, Bool.not_eq_true', Bool.not_eq_false', beq_iff_eq, bne_iff_ne, beq_eq_false_iff_ne, bne_eq_false_iff_eq, ne_eq, Decidable.not_not] at hc21
            refine ur_pass rfl rfl rfl rfl ?_
            refine ur_pass rfl rfl rfl rfl ?_
            refine ur_pass rfl rfl rfl rfl ?_
            refine ur_pass rfl rfl rfl rfl ?_
            refine ur_opw rfl rfl rfl rfl rfl (opv_pick rfl rfl rfl ?_)
            refine ur_opw rfl rfl rfl rfl rfl (opv_move rfl rfl ?_)
            refine ur_pass rfl rfl rfl rfl ?_
            refine ur_pass rfl rfl rfl rfl ?_
            refine ur_pass rfl rfl rfl rfl ?_
            refine ur_pass rfl rfl rfl rfl ?_
            refine ur_opw rfl rfl rfl rfl rfl (opv_pick rfl rfl rfl ?_)
            refine ur_opw rfl rfl rfl rfl rfl (opv_move rfl rfl ?_)
            refine ur_pass rfl rfl rfl rfl ?_
            refine ur_pass rfl rfl rfl rfl ?_
            refine ur_pass rfl rfl rfl rfl ?_
            refine ur_pass rfl rfl rfl rfl ?_
            refine ur_opw rfl rfl rfl rfl rfl (opv_pick rfl rfl rfl ?_)
            refine ur_region_end ?_
            repeat refine ur_seq ?_
            refine ur_condT rfl ?_
            repeat refine ur_seq ?_
            refine ur_region rfl ?_
            refine ur_opw rfl rfl rfl rfl rfl (opv_assign rfl rfl ?_)
            refine ur_region_end ?_
            first
            | exact ur_ret1 G Tryz.func23 rfl rfl ⟨false, rfl, fun q => (by cases q), fun o => (by
                exfalso
                have o1 := o.threads
                have o2 := o.stripes
                have o3 := o.gate
                have o4 := o.lease
                have o5 := o.retry
                have o6 := o.tickets
                have o7 := o.nodes
                have o8 := o.limlen
                omega)⟩
            | exact ur_ret1 G Tryz.func23 rfl rfl ⟨false, rfl, fun q => (by cases q), fun o => (by
                exfalso
                have o9 := o.limits x (List.mem_of_getElem? hx)
                have o10 := o.root
                have o11 := o.tree i p
                first
                | omega
                | (have e : i = 0 := by omega
                   subst e
                   rw [hp] at o10
                   injection o10 with o10
                   omega)
                | (have o12 := o11 (by omega) hp
                   omega))⟩
            | exact ur_ret1 G Tryz.func23 rfl rfl ⟨true, rfl, fun _ => (by
                have hi : i = c.parents.length := by omega
                exact ⟨by omega, by omega, by omega, by omega, by omega, by omega, by omega, by omega, hlim (by omega), hroot (by omega), fun j q hj hq => htree j q (by have := (List.getElem?_eq_some_iff.1 hq).1; omega) hj hq⟩), fun _ => rfl⟩
          · -- no
            try simp only [decide_eq_true_eq, decide_eq_false_iff_not, Bool.not_eq_true', Bool.not_eq_false', beq_iff_eq, bne_iff_ne, beq_eq_false_iff_ne, bne_eq_false_iff_eq, ne_eq, Decidable.not_not] at hc21
            refine ur_opw rfl rfl rfl rfl rfl (opv_fieldAddr0 rfl rfl rfl ?_)
            refine ur_opw rfl rfl rfl rfl rfl (opv_load1 (by first | exact .inl (Has.has H) | exact .inr (Has.has HR)) rfl rfl rfl ?_)
            refine ur_opw rfl rfl rfl rfl rfl (opv_call rfl rfl rfl (opv_to [] [] H (fun F1 h1 hF HR1 H1 => lw_in) ?_))
            rintro v h1 h ⟨rfl⟩ J
            have H := J (LN := []) trivial
            refine ur_opw rfl rfl rfl rfl rfl (opv_not rfl rfl ?_)
            refine ur_opw rfl rfl rfl rfl rfl (opv_pick rfl rfl rfl ?_)
            refine ur_opw rfl rfl rfl rfl rfl (opv_move rfl rfl ?_)
            refine ur_split 40 rfl (fun hc22 => ?_) (fun hc22 => ?_)
            · -- yes
              try simp only [decide_eq_true_eq, decide_eq_false_iff_not, Bool.not_eq_true', Bool.not_eq_false', beq_iff_eq, bne_iff_ne, beq_eq_false_iff_ne, bne_eq_false_iff_eq, ne_eq, Decidable.not_not] at hc22
              refine ur_pass rfl rfl rfl rfl ?_
              refine ur_pass rfl rfl rfl rfl ?_
              refine ur_pass rfl rfl rfl rfl ?_
              refine ur_pass rfl rfl rfl rfl ?_
              refine ur_opw rfl rfl rfl rfl rfl (opv_pick rfl rfl rfl ?_)
              refine ur_opw rfl rfl rfl rfl rfl (opv_move rfl rfl ?_)
              refine ur_pass rfl rfl rfl rfl ?_
              refine ur_pass rfl rfl rfl rfl ?_
              refine ur_pass rfl rfl rfl rfl ?_
              refine ur_pass rfl rfl rfl rfl ?_
              refine ur_opw rfl rfl rfl rfl rfl (opv_pick rfl rfl rfl ?_)
              refine ur_region_end ?_
              repeat refine ur_seq ?_
              refine ur_condT rfl ?_
              repeat refine ur_seq ?_
              refine ur_region rfl ?_
              refine ur_opw rfl rfl rfl rfl rfl (opv_assign rfl rfl ?_)
              refine ur_region_end ?_
              first
              | exact ur_ret1 G Tryz.func23 rfl rfl ⟨false, rfl, fun q => (by cases q), fun o => (by
                  exfalso
                  have o1 := o.threads
                  have o2 := o.stripes
                  have o3 := o.gate
                  have o4 := o.lease
                  have o5 := o.retry
                  have o6 := o.tickets
                  have o7 := o.nodes
                  have o8 := o.limlen
                  omega)⟩
              | exact ur_ret1 G Tryz.func23 rfl rfl ⟨false, rfl, fun q => (by cases q), fun o => (by
                  exfalso
                  have o9 := o.limits x (List.mem_of_getElem? hx)
                  have o10 := o.root
                  have o11 := o.tree i p
                  first
                  | omega
                  | (have e : i = 0 := by omega
                     subst e
                     rw [hp] at o10
                     injection o10 with o10
                     omega)
                  | (have o12 := o11 (by omega) hp
                     omega))⟩
              | exact ur_ret1 G Tryz.func23 rfl rfl ⟨true, rfl, fun _ => (by
                  have hi : i = c.parents.length := by omega
                  exact ⟨by omega, by omega, by omega, by omega, by omega, by omega, by omega, by omega, hlim (by omega), hroot (by omega), fun j q hj hq => htree j q (by have := (List.getElem?_eq_some_iff.1 hq).1; omega) hj hq⟩), fun _ => rfl⟩
            · -- no
              try simp only [decide_eq_true_eq, decide_eq_false_iff_not, Bool.not_eq_true', Bool.not_eq_false', beq_iff_eq, bne_iff_ne, beq_eq_false_iff_ne, bne_eq_false_iff_eq, ne_eq, Decidable.not_not] at hc22
              refine ur_opw rfl rfl rfl rfl rfl (opv_fieldAddr0 rfl rfl rfl ?_)
              refine ur_opw rfl rfl rfl rfl rfl (opv_load1 (by first | exact .inl (Has.has H) | exact .inr (Has.has HR)) rfl rfl rfl ?_)
              refine ur_opw rfl rfl rfl rfl rfl (opv_call rfl rfl rfl (opv_to [] [] H (fun F1 h1 hF HR1 H1 => lw_in) ?_))
              rintro v h1 h ⟨rfl⟩ J
              have H := J (LN := []) trivial
              refine ur_opw rfl rfl rfl rfl rfl (opv_not rfl rfl ?_)
              refine ur_opw rfl rfl rfl rfl rfl (opv_pick rfl rfl rfl ?_)
              refine ur_opw rfl rfl rfl rfl rfl (opv_move rfl rfl ?_)
              refine ur_split 46 rfl (fun hc23 => ?_) (fun hc23 => ?_)
              · -- yes
                try simp only [decide_eq_true_eq, decide_eq_false_iff_not, Bool.not_eq_true', Bool.not_eq_false', beq_iff_eq, bne_iff_ne, beq_eq_false_iff_ne, bne_eq_false_iff_eq, ne_eq, Decidable.not_not] at hc23
                refine ur_pass rfl rfl rfl rfl ?_
                refine ur_pass rfl rfl rfl rfl ?_
                refine ur_pass rfl rfl rfl rfl ?_
                refine ur_pass rfl rfl rfl rfl ?_
                refine ur_opw rfl rfl rfl rfl rfl (opv_pick rfl rfl rfl ?_)
                refine ur_region_end ?_
                repeat refine ur_seq ?_
                refine ur_condT rfl ?_
                repeat refine ur_seq ?_
                refine ur_region rfl ?_
                refine ur_opw rfl rfl rfl rfl rfl (opv_assign rfl rfl ?_)
                refine ur_region_end ?_
                first
                | exact ur_ret1 G Tryz.func23 rfl rfl ⟨false, rfl, fun q => (by cases q), fun o => (by
                    exfalso
                    have o1 := o.threads
                    have o2 := o.stripes
                    have o3 := o.gate
                    have o4 := o.lease
                    have o5 := o.retry
                    have o6 := o.tickets
                    have o7 := o.nodes
                    have o8 := o.limlen
                    omega)⟩
                | exact ur_ret1 G Tryz.func23 rfl rfl ⟨false, rfl, fun q => (by cases q), fun o => (by
                    exfalso
                    have o9 := o.limits x (List.mem_of_getElem? hx)
                    have o10 := o.root
                    have o11 := o.tree i p
                    first
                    | omega
                    | (have e : i = 0 := by omega
                       subst e
                       rw [hp] at o10
                       injection o10 with o10
                       omega)
                    | (have o12 := o11 (by omega) hp
                       omega))⟩
                | exact ur_ret1 G Tryz.func23 rfl rfl ⟨true, rfl, fun _ => (by
                    have hi : i = c.parents.length := by omega
                    exact ⟨by omega, by omega, by omega, by omega, by omega, by omega, by omega, by omega, hlim (by omega), hroot (by omega), fun j q hj hq => htree j q (by have := (List.getElem?_eq_some_iff.1 hq).1; omega) hj hq⟩), fun _ => rfl⟩
              · -- no
                try simp only [decide_eq_true_eq, decide_eq_false_iff_not, Bool.not_eq_true', Bool.not_eq_false', beq_iff_eq, bne_iff_ne, beq_eq_false_iff_ne, bne_eq_false_iff_eq, ne_eq, Decidable.not_not] at hc23
                refine ur_opw rfl rfl rfl rfl rfl (opv_fieldAddr0 rfl rfl rfl ?_)
                refine ur_opw rfl rfl rfl rfl rfl (opv_load1 (by first | exact .inl (Has.has H) | exact .inr (Has.has HR)) rfl rfl rfl ?_)
                refine ur_opw rfl rfl rfl rfl rfl (opv_call rfl rfl rfl (opv_to [] [] H (fun F1 h1 hF HR1 H1 => lw_in) ?_))
                rintro v h1 h ⟨rfl⟩ J
                have H := J (LN := []) trivial
                refine ur_opw rfl rfl rfl rfl rfl (opv_not rfl rfl ?_)
                refine ur_opw rfl rfl rfl rfl rfl (opv_pick rfl rfl rfl ?_)
                refine ur_region_end ?_
                repeat refine ur_seq ?_
                refine ur_cond rfl (fun hc24 => ?_) (fun hc24 => ?_)
                · -- yes
                  try simp only [decide_eq_true_eq, decide_eq_false_iff_not, Bool.not_eq_true', Bool.not_eq_false', beq_iff_eq, bne_iff_ne, beq_eq_false_iff_ne, bne_eq_false_iff_eq, ne_eq, Decidable.not_not] at hc24
                  repeat refine ur_seq ?_
                  refine ur_region rfl ?_
                  refine ur_opw rfl rfl rfl rfl rfl (opv_assign rfl rfl ?_)
                  refine ur_region_end ?_
                  first
                  | exact ur_ret1 G Tryz.func23 rfl rfl ⟨false, rfl, fun q => (by cases q), fun o => (by
                      exfalso
                      have o1 := o.threads
                      have o2 := o.stripes
                      have o3 := o.gate
                      have o4 := o.lease
                      have o5 := o.retry
                      have o6 := o.tickets
                      have o7 := o.nodes
                      have o8 := o.limlen
                      omega)⟩
                  | exact ur_ret1 G Tryz.func23 rfl rfl ⟨false, rfl, fun q => (by cases q), fun o => (by
                      exfalso
                      have o9 := o.limits x (List.mem_of_getElem? hx)
                      have o10 := o.root
                      have o11 := o.tree i p
                      first
                      | omega
                      | (have e : i = 0 := by omega
                         subst e
                         rw [hp] at o10
                         injection o10 with o10
                         omega)
                      | (have o12 := o11 (by omega) hp
                         omega))⟩
                  | exact ur_ret1 G Tryz.func23 rfl rfl ⟨true, rfl, fun _ => (by
                      have hi : i = c.parents.length := by omega
                      exact ⟨by omega, by omega, by omega, by omega, by omega, by omega, by omega, by omega, hlim (by omega), hroot (by omega), fun j q hj hq => htree j q (by have := (List.getElem?_eq_some_iff.1 hq).1; omega) hj hq⟩), fun _ => rfl⟩
                · -- no
                  try simp only [decide_eq_true_eq, decide_eq_false_iff_not, Bool.not_eq_true', Bool.not_eq_false', beq_iff_eq, bne_iff_ne, beq_eq_false_iff_ne, bne_eq_false_iff_eq, ne_eq, Decidable.not_not] at hc24
                  refine ur_skip ?_
                  repeat refine ur_seq ?_
                  refine ur_region rfl ?_
                  refine ur_opw rfl rfl rfl rfl rfl (opv_fieldAddr0 rfl rfl rfl ?_)
                  refine ur_opw rfl rfl rfl rfl rfl (opv_load1 (by first | exact .inl (Has.has H) | exact .inr (Has.has HR)) rfl rfl rfl ?_)
                  refine ur_opw rfl rfl rfl rfl rfl (opv_len rfl rfl ?_)
                  refine ur_opw rfl rfl rfl rfl rfl (opv_call rfl rfl rfl (opv_to [] [] H (fun F1 h1 hF HR1 H1 => lw_in) ?_))
                  rintro v h1 h ⟨rfl⟩ J
                  have H := J (LN := []) trivial
                  refine ur_opw rfl rfl rfl rfl rfl (opv_not rfl rfl ?_)
                  refine ur_opw rfl rfl rfl rfl rfl (opv_move rfl rfl ?_)
                  refine ur_split 57 rfl (fun hc25 => ?_) (fun hc25 => ?_)
                  · -- yes
                    try simp only [decide_eq_true_eq, decide_eq_false_iff_not, Bool.not_eq_true', Bool.not_eq_false', beq_iff_eq, bne_iff_ne, beq_eq_false_iff_ne, bne_eq_false_iff_eq, ne_eq, Decidable.not_not] at hc25
                    refine ur_pass rfl rfl rfl rfl ?_
                    refine ur_pass rfl rfl rfl rfl ?_
                    refine ur_pass rfl rfl rfl rfl ?_
                    refine ur_pass rfl rfl rfl rfl ?_
                    refine ur_pass rfl rfl rfl rfl ?_
                    refine ur_pass rfl rfl rfl rfl ?_
                    refine ur_pass rfl rfl rfl rfl ?_
                    refine ur_opw rfl rfl rfl rfl rfl (opv_pick rfl rfl rfl ?_)
                    refine ur_region_end ?_
                    repeat refine ur_seq ?_
                    refine ur_condT rfl ?_
                    repeat refine ur_seq ?_
                    refine ur_region rfl ?_
                    refine ur_opw rfl rfl rfl rfl rfl (opv_assign rfl rfl ?_)
                    refine ur_region_end ?_
                    first
                    | exact ur_ret1 G Tryz.func23 rfl rfl ⟨false, rfl, fun q => (by cases q), fun o => (by
                        exfalso
                        have o1 := o.threads
                        have o2 := o.stripes
                        have o3 := o.gate
                        have o4 := o.lease
                        have o5 := o.retry
                        have o6 := o.tickets
                        have o7 := o.nodes
                        have o8 := o.limlen
                        omega)⟩
                    | exact ur_ret1 G Tryz.func23 rfl rfl ⟨false, rfl, fun q => (by cases q), fun o => (by
                        exfalso
                        have o9 := o.limits x (List.mem_of_getElem? hx)
                        have o10 := o.root
                        have o11 := o.tree i p
                        first
                        | omega
                        | (have e : i = 0 := by omega
                           subst e
                           rw [hp] at o10
                           injection o10 with o10
                           omega)
                        | (have o12 := o11 (by omega) hp
                           omega))⟩
                    | exact ur_ret1 G Tryz.func23 rfl rfl ⟨true, rfl, fun _ => (by
                        have hi : i = c.parents.length := by omega
                        exact ⟨by omega, by omega, by omega, by omega, by omega, by omega, by omega, by omega, hlim (by omega), hroot (by omega), fun j q hj hq => htree j q (by have := (List.getElem?_eq_some_iff.1 hq).1; omega) hj hq⟩), fun _ => rfl⟩
                  · -- no
                    try simp only [decide_eq_true_eq, decide_eq_false_iff_not, Bool.not_eq_true', Bool.not_eq_false', beq_iff_eq, bne_iff_ne, beq_eq_false_iff_ne, bne_eq_false_iff_eq, ne_eq, Decidable.not_not] at hc25
                    refine ur_opw rfl rfl rfl rfl rfl (opv_fieldAddr0 rfl rfl rfl ?_)
                    refine ur_opw rfl rfl rfl rfl rfl (opv_load1 (by first | exact .inl (Has.has H) | exact .inr (Has.has HR)) rfl rfl rfl ?_)
                    refine ur_opw rfl rfl rfl rfl rfl (opv_len rfl rfl ?_)
                    refine ur_opw rfl rfl rfl rfl rfl (opv_fieldAddr0 rfl rfl rfl ?_)
                    refine ur_opw rfl rfl rfl rfl rfl (opv_load1 (by first | exact .inl (Has.has H) | exact .inr (Has.has HR)) rfl rfl rfl ?_)
                    refine ur_opw rfl rfl rfl rfl rfl (opv_len rfl rfl ?_)
                    refine ur_opw rfl rfl rfl rfl rfl (opv_cmp rfl rfl rfl rfl ?_)
                    refine ur_opw rfl rfl rfl rfl rfl (opv_pick rfl rfl rfl ?_)
                    refine ur_region_end ?_
                    repeat refine ur_seq ?_
                    refine ur_cond rfl (fun hc26 => ?_) (fun hc26 => ?_)
                    · -- yes
                      try simp only [decide_eq_true_eq, decide_eq_false_iff_not, Bool.not_eq_true', Bool.not_eq_false', beq_iff_eq, bne_iff_ne, beq_eq_false_iff_ne, bne_eq_false_iff_eq, ne_eq, Decidable.not_not] at hc26
                      repeat refine ur_seq ?_
                      refine ur_region rfl ?_
                      refine ur_opw rfl rfl rfl rfl rfl (opv_assign rfl rfl ?_)
                      refine ur_region_end ?_
                      first
                      | exact ur_ret1 G Tryz.func23 rfl rfl ⟨false, rfl, fun q => (by cases q), fun o => (by
                          exfalso
                          have o1 := o.threads
                          have o2 := o.stripes
                          have o3 := o.gate
                          have o4 := o.lease
                          have o5 := o.retry
                          have o6 := o.tickets
                          have o7 := o.nodes
                          have o8 := o.limlen
                          omega)⟩
                      | exact ur_ret1 G Tryz.func23 rfl rfl ⟨false, rfl, fun q => (by cases q), fun o => (by
                          exfalso
                          have o9 := o.limits x (List.mem_of_getElem? hx)
                          have o10 := o.root
                          have o11 := o.tree i p
                          first
                          | omega
                          | (have e : i = 0 := by omega
                             subst e
                             rw [hp] at o10
                             injection o10 with o10
                             omega)
                          | (have o12 := o11 (by omega) hp
                             omega))⟩
                      | exact ur_ret1 G Tryz.func23 rfl rfl ⟨true, rfl, fun _ => (by
                          have hi : i = c.parents.length := by omega
                          exact ⟨by omega, by omega, by omega, by omega, by omega, by omega, by omega, by omega, hlim (by omega), hroot (by omega), fun j q hj hq => htree j q (by have := (List.getElem?_eq_some_iff.1 hq).1; omega) hj hq⟩), fun _ => rfl⟩
                    · -- no
                      try simp only [decide_eq_true_eq, decide_eq_false_iff_not, Bool.not_eq_true', Bool.not_eq_false', beq_iff_eq, bne_iff_ne, beq_eq_false_iff_ne, bne_eq_false_iff_eq, ne_eq, Decidable.not_not] at hc26
                      refine ur_skip ?_
                      repeat refine ur_seq ?_
                      refine ur_region rfl ?_
                      refine ur_opw rfl rfl rfl rfl rfl (opv_assign rfl rfl ?_)
                      refine ur_region_end ?_
                      repeat refine ur_seq ?_
                      refine ur_block ?_
                      refine ur_sub (l' := [(3, .int .i64 (0 : Nat)), (1, .pointer (some ⟨b1, 0, none⟩))]) ⟨rfl, rfl, trivial⟩ ?_
                      refine ur_loop_inv (n := c.parents.length) (fun n l h => ∃ (i : Nat), l = [(3, .int .i64 (i : Nat)), (1, .pointer (some ⟨b1, 0, none⟩))] ∧ n + i = c.parents.length ∧ (∀ j v, j < i → c.limits[j]? = some v → 0 ≤ v ∧ v ≤ 1099511627776) ∧ (0 < i → c.parents[0]? = some (-1)) ∧ (∀ (j : Nat) (q : Int), j < i → 0 < j → c.parents[j]? = some q → 0 ≤ q ∧ q < j) ∧ Own [pt b1 (.cells (cfv c A).toArray 24 (0, 0))] h) ⟨0, rfl, by omega, fun j v hj => by omega, fun hj => by omega, fun j q hj => by omega, H.keep [0]⟩ ?_
                      rintro n ih l h ⟨i, rfl, hn, hl0, hr0, ht0, H⟩
                      repeat refine ur_seq ?_
                      refine ur_region rfl ?_
                      refine ur_opw rfl rfl rfl rfl rfl (opv_move rfl rfl ?_)
                      refine ur_opw rfl rfl rfl rfl rfl (opv_fieldAddr0 rfl rfl rfl ?_)
                      refine ur_opw rfl rfl rfl rfl rfl (opv_load1 (by first | exact .inl (Has.has H) | exact .inr (Has.has HR)) rfl rfl rfl ?_)
                      refine ur_opw rfl rfl rfl rfl rfl (opv_len rfl rfl ?_)
                      refine ur_opw rfl rfl rfl rfl rfl (opv_cmp rfl rfl rfl rfl ?_)
                      refine ur_region_end ?_
                      repeat refine ur_seq ?_
                      refine ur_cond rfl (fun hc27 => ?_) (fun hc27 => ?_)
                      · -- yes
                        try simp only [decide_eq_true_eq, decide_eq_false_iff_not, Bool.not_eq_true', Bool.not_eq_false', beq_iff_eq, bne_iff_ne, beq_eq_false_iff_ne, bne_eq_false_iff_eq, ne_eq, Decidable.not_not] at hc27
                        have hi : i < c.parents.length := by omega
                        obtain ⟨x, hx⟩ : ∃ x, c.limits[i]? = some x := ⟨_, List.getElem?_eq_getElem (by omega)⟩
                        obtain ⟨p, hp⟩ : ∃ p, c.parents[i]? = some p := ⟨_, List.getElem?_eq_getElem hi⟩
                        obtain ⟨lb, loff, lcs, lT, lfr, ela, hlb, hlv⟩ := R.l.at hx
                        obtain ⟨pb, poff, pcs, pT, pfr, epa, hpb, hpv⟩ := R.p.at hp
                        refine ur_skip ?_
                        repeat refine ur_seq ?_
                        refine ur_block ?_
                        repeat refine ur_seq ?_
                        refine ur_region rfl ?_
                        refine ur_opw rfl rfl rfl rfl rfl (opv_fieldAddr0 rfl rfl rfl ?_)
                        refine ur_opw rfl rfl rfl rfl rfl (opv_load1 (by first | exact .inl (Has.has H) | exact .inr (Has.has HR)) rfl rfl (show (cfv c A)[7]? = some (.slice (some ⟨lb, loff, none⟩) c.limits.length A.lc) from by simp [cfv, ela]) ?_)
                        refine ur_opw rfl rfl rfl rfl rfl (opv_move rfl rfl ?_)
                        refine ur_opw rfl rfl rfl rfl rfl (opv_indexAt (r := loff + i) rfl rfl rfl ⟨by omega, by omega⟩ (by simp) ?_)
                        refine ur_opw rfl rfl rfl rfl rfl (opv_load1 (.inr hlb) rfl rfl hlv ?_)
                        refine ur_opw rfl rfl rfl rfl rfl (opv_call rfl rfl rfl (opv_to [] [] H (fun F1 h1 hF HR1 H1 => lw_in) ?_))
                        rintro v h1 h ⟨rfl⟩ J
                        have H := J (LN := []) trivial
                        refine ur_opw rfl rfl rfl rfl rfl (opv_not rfl rfl ?_)
                        refine ur_opw rfl rfl rfl rfl rfl (opv_move rfl rfl ?_)
                        refine ur_split 80 rfl (fun hc28 => ?_) (fun hc28 => ?_)
                        · -- yes
                          try simp only [decide_eq_true_eq, decide_eq_false_iff_not, Bool.not_eq_true', Bool.not_eq_false', beq_iff_eq, bne_iff_ne, beq_eq_false_iff_ne, bne_eq_false_iff_eq, ne_eq, Decidable.not_not] at hc28
                          refine ur_pass rfl rfl rfl rfl ?_
                          refine ur_pass rfl rfl rfl rfl ?_
                          refine ur_pass rfl rfl rfl rfl ?_
                          refine ur_pass rfl rfl rfl rfl ?_
                          refine ur_pass rfl rfl rfl rfl ?_
                          refine ur_pass rfl rfl rfl rfl ?_
                          refine ur_pass rfl rfl rfl rfl ?_
                          refine ur_pass rfl rfl rfl rfl ?_
                          refine ur_pass rfl rfl rfl rfl ?_
                          refine ur_pass rfl rfl rfl rfl ?_
                          refine ur_opw rfl rfl rfl rfl rfl (opv_pick rfl rfl rfl ?_)
                          refine ur_opw rfl rfl rfl rfl rfl (opv_move rfl rfl ?_)
                          refine ur_pass rfl rfl rfl rfl ?_
                          refine ur_pass rfl rfl rfl rfl ?_
                          refine ur_pass rfl rfl rfl rfl ?_
                          refine ur_pass rfl rfl rfl rfl ?_
                          refine ur_pass rfl rfl rfl rfl ?_
                          refine ur_pass rfl rfl rfl rfl ?_
                          refine ur_pass rfl rfl rfl rfl ?_
                          refine ur_pass rfl rfl rfl rfl ?_
                          refine ur_pass rfl rfl rfl rfl ?_
                          refine ur_pass rfl rfl rfl rfl ?_
                          refine ur_pass rfl rfl rfl rfl ?_
                          refine ur_pass rfl rfl rfl rfl ?_
                          refine ur_pass rfl rfl rfl rfl ?_
                          refine ur_opw rfl rfl rfl rfl rfl (opv_pick rfl rfl rfl ?_)
                          refine ur_region_end ?_
                          refine ur_condT rfl ?_
                          repeat refine ur_seq ?_
                          refine ur_region rfl ?_
                          refine ur_opw rfl rfl rfl rfl rfl (opv_assign rfl rfl ?_)
                          refine ur_region_end ?_
                          first
                          | exact ur_ret1 G Tryz.func23 rfl rfl ⟨false, rfl, fun q => (by cases q), fun o => (by
                              exfalso
                              have o1 := o.threads
                              have o2 := o.stripes
                              have o3 := o.gate
                              have o4 := o.lease
                              have o5 := o.retry
                              have o6 := o.tickets
                              have o7 := o.nodes
                              have o8 := o.limlen
                              omega)⟩
                          | exact ur_ret1 G Tryz.func23 rfl rfl ⟨false, rfl, fun q => (by cases q), fun o => (by
                              exfalso
                              have o9 := o.limits x (List.mem_of_getElem? hx)
                              have o10 := o.root
                              have o11 := o.tree i p
                              first
                              | omega
                              | (have e : i = 0 := by omega
                                 subst e
                                 rw [hp] at o10
                                 injection o10 with o10
                                 omega)
                              | (have o12 := o11 (by omega) hp
                                 omega))⟩
                          | exact ur_ret1 G Tryz.func23 rfl rfl ⟨true, rfl, fun _ => (by
                              have hi : i = c.parents.length := by omega
                              exact ⟨by omega, by omega, by omega, by omega, by omega, by omega, by omega, by omega, hlim (by omega), hroot (by omega), fun j q hj hq => htree j q (by have := (List.getElem?_eq_some_iff.1 hq).1; omega) hj hq⟩), fun _ => rfl⟩
                        · -- no
                          try simp only [decide_eq_true_eq, decide_eq_false_iff_not, Bool.not_eq_true', Bool.not_eq_false', beq_iff_eq, bne_iff_ne, beq_eq_false_iff_ne, bne_eq_false_iff_eq, ne_eq, Decidable.not_not] at hc28
                          refine ur_opw rfl rfl rfl rfl rfl (opv_move rfl rfl ?_)
                          refine ur_opw rfl rfl rfl rfl rfl (opv_cmp rfl rfl rfl rfl ?_)
                          refine ur_opw rfl rfl rfl rfl rfl (opv_move rfl rfl ?_)
                          refine ur_split 83 rfl (fun hc29 => ?_) (fun hc29 => ?_)
                          · -- yes
                            try simp only [decide_eq_true_eq, decide_eq_false_iff_not, Bool.not_eq_true', Bool.not_eq_false', beq_iff_eq, bne_iff_ne, beq_eq_false_iff_ne, bne_eq_false_iff_eq, ne_eq, Decidable.not_not] at hc29
                            refine ur_opw rfl rfl rfl rfl rfl (opv_fieldAddr0 rfl rfl rfl ?_)
                            refine ur_opw rfl rfl rfl rfl rfl (opv_load1 (by first | exact .inl (Has.has H) | exact .inr (Has.has HR)) rfl rfl (show (cfv c A)[6]? = some (.slice (some ⟨pb, poff, none⟩) c.parents.length A.pc) from by simp [cfv, epa]) ?_)
                            refine ur_opw rfl rfl rfl rfl rfl (opv_move rfl rfl ?_)
                            refine ur_opw rfl rfl rfl rfl rfl (opv_indexAt (r := poff + i) rfl rfl rfl ⟨by omega, by omega⟩ (by simp) ?_)
                            refine ur_opw rfl rfl rfl rfl rfl (opv_load1 (.inr hpb) rfl rfl hpv ?_)
                            refine ur_opw rfl rfl rfl rfl rfl (opv_cmp rfl rfl rfl rfl ?_)
                            refine ur_opw rfl rfl rfl rfl rfl (opv_pick rfl rfl rfl ?_)
                            refine ur_opw rfl rfl rfl rfl rfl (opv_pick rfl rfl rfl ?_)
                            refine ur_opw rfl rfl rfl rfl rfl (opv_move rfl rfl ?_)
                            refine ur_split 92 rfl (fun hc30 => ?_) (fun hc30 => ?_)
                            · -- yes
                              try simp only [decide_eq_true_eq, decide_eq_false_iff_not, Bool.not_eq_true', Bool.not_eq_false', beq_iff_eq, bne_iff_ne, beq_eq_false_iff_ne, bne_eq_false_iff_eq, ne_eq, Decidable.not_not] at hc30
                              refine ur_pass rfl rfl rfl rfl ?_
                              refine ur_pass rfl rfl rfl rfl ?_
                              refine ur_pass rfl rfl rfl rfl ?_
                              refine ur_pass rfl rfl rfl rfl ?_
                              refine ur_pass rfl rfl rfl rfl ?_
                              refine ur_pass rfl rfl rfl rfl ?_
                              refine ur_pass rfl rfl rfl rfl ?_
                              refine ur_pass rfl rfl rfl rfl ?_
                              refine ur_pass rfl rfl rfl rfl ?_
                              refine ur_pass rfl rfl rfl rfl ?_
                              refine ur_pass rfl rfl rfl rfl ?_
                              refine ur_pass rfl rfl rfl rfl ?_
                              refine ur_pass rfl rfl rfl rfl ?_
                              refine ur_opw rfl rfl rfl rfl rfl (opv_pick rfl rfl rfl ?_)
                              refine ur_region_end ?_
                              refine ur_condT rfl ?_
                              repeat refine ur_seq ?_
                              refine ur_region rfl ?_
                              refine ur_opw rfl rfl rfl rfl rfl (opv_assign rfl rfl ?_)
                              refine ur_region_end ?_
                              first
                              | exact ur_ret1 G Tryz.func23 rfl rfl ⟨false, rfl, fun q => (by cases q), fun o => (by
                                  exfalso
                                  have o1 := o.threads
                                  have o2 := o.stripes
                                  have o3 := o.gate
                                  have o4 := o.lease
                                  have o5 := o.retry
                                  have o6 := o.tickets
                                  have o7 := o.nodes
                                  have o8 := o.limlen
                                  omega)⟩
                              | exact ur_ret1 G Tryz.func23 rfl rfl ⟨false, rfl, fun q => (by cases q), fun o => (by
                                  exfalso
                                  have o9 := o.limits x (List.mem_of_getElem? hx)
                                  have o10 := o.root
                                  have o11 := o.tree i p
                                  first
                                  | omega
                                  | (have e : i = 0 := by omega
                                     subst e
                                     rw [hp] at o10
                                     injection o10 with o10
                                     omega)
                                  | (have o12 := o11 (by omega) hp
                                     omega))⟩
                              | exact ur_ret1 G Tryz.func23 rfl rfl ⟨true, rfl, fun _ => (by
                                  have hi : i = c.parents.length := by omega
                                  exact ⟨by omega, by omega, by omega, by omega, by omega, by omega, by omega, by omega, hlim (by omega), hroot (by omega), fun j q hj hq => htree j q (by have := (List.getElem?_eq_some_iff.1 hq).1; omega) hj hq⟩), fun _ => rfl⟩
                            · -- no
                              try simp only [decide_eq_true_eq, decide_eq_false_iff_not, Bool.not_eq_true', Bool.not_eq_false', beq_iff_eq, bne_iff_ne, beq_eq_false_iff_ne, bne_eq_false_iff_eq, ne_eq, Decidable.not_not] at hc30
                              refine ur_opw rfl rfl rfl rfl rfl (opv_move rfl rfl ?_)
                              refine ur_opw rfl rfl rfl rfl rfl (opv_cmp rfl rfl rfl rfl ?_)
                              refine ur_opw rfl rfl rfl rfl rfl (opv_move rfl rfl ?_)
                              refine ur_split 95 rfl (fun hc31 => ?_) (fun hc31 => ?_)
                              · -- yes
                                try simp only [decide_eq_true_eq, decide_eq_false_iff_not, Bool.not_eq_true', Bool.not_eq_false', beq_iff_eq, bne_iff_ne, beq_eq_false_iff_ne, bne_eq_false_iff_eq, ne_eq, Decidable.not_not] at hc31
                                refine ur_opw rfl rfl rfl rfl rfl (opv_fieldAddr0 rfl rfl rfl ?_)
                                refine ur_opw rfl rfl rfl rfl rfl (opv_load1 (by first | exact .inl (Has.has H) | exact .inr (Has.has HR)) rfl rfl (show (cfv c A)[6]? = some (.slice (some ⟨pb, poff, none⟩) c.parents.length A.pc) from by simp [cfv, epa]) ?_)
                                refine ur_opw rfl rfl rfl rfl rfl (opv_move rfl rfl ?_)
                                refine ur_opw rfl rfl rfl rfl rfl (opv_indexAt (r := poff + i) rfl rfl rfl ⟨by omega, by omega⟩ (by simp) ?_)
                                refine ur_opw rfl rfl rfl rfl rfl (opv_load1 (.inr hpb) rfl rfl hpv ?_)
                                refine ur_opw rfl rfl rfl rfl rfl (opv_move rfl rfl ?_)
                                refine ur_opw rfl rfl rfl rfl rfl (opv_arith rfl rfl rfl rfl (by first | exact wi (by omega) | rfl) ?_)
                                refine ur_opw rfl rfl rfl rfl rfl (opv_call rfl rfl rfl (opv_to [] [] H (fun F1 h1 hF HR1 H1 => lw_in) ?_))
                                rintro v h1 h ⟨rfl⟩ J
                                have H := J (LN := []) trivial
                                refine ur_opw rfl rfl rfl rfl rfl (opv_not rfl rfl ?_)
                                refine ur_opw rfl rfl rfl rfl rfl (opv_pick rfl rfl rfl ?_)
                                refine ur_opw rfl rfl rfl rfl rfl (opv_pick rfl rfl rfl ?_)
                                refine ur_region_end ?_
                                refine ur_cond rfl (fun hc32 => ?_) (fun hc32 => ?_)
                                · -- yes
                                  try simp only [decide_eq_true_eq, decide_eq_false_iff_not, Bool.not_eq_true', Bool.not_eq_false', beq_iff_eq, bne_iff_ne, beq_eq_false_iff_ne, bne_eq_false_iff_eq, ne_eq, Decidable.not_not] at hc32
                                  repeat refine ur_seq ?_
                                  refine ur_region rfl ?_
                                  refine ur_opw rfl rfl rfl rfl rfl (opv_assign rfl rfl ?_)
                                  refine ur_region_end ?_
                                  first
                                  | exact ur_ret1 G Tryz.func23 rfl rfl ⟨false, rfl, fun q => (by cases q), fun o => (by
                                      exfalso
                                      have o1 := o.threads
                                      have o2 := o.stripes
                                      have o3 := o.gate
                                      have o4 := o.lease
                                      have o5 := o.retry
                                      have o6 := o.tickets
                                      have o7 := o.nodes
                                      have o8 := o.limlen
                                      omega)⟩
                                  | exact ur_ret1 G Tryz.func23 rfl rfl ⟨false, rfl, fun q => (by cases q), fun o => (by
                                      exfalso
                                      have o9 := o.limits x (List.mem_of_getElem? hx)
                                      have o10 := o.root
                                      have o11 := o.tree i p
                                      first
                                      | omega
                                      | (have e : i = 0 := by omega
                                         subst e
                                         rw [hp] at o10
                                         injection o10 with o10
                                         omega)
                                      | (have o12 := o11 (by omega) hp
                                         omega))⟩
                                  | exact ur_ret1 G Tryz.func23 rfl rfl ⟨true, rfl, fun _ => (by
                                      have hi : i = c.parents.length := by omega
                                      exact ⟨by omega, by omega, by omega, by omega, by omega, by omega, by omega, by omega, hlim (by omega), hroot (by omega), fun j q hj hq => htree j q (by have := (List.getElem?_eq_some_iff.1 hq).1; omega) hj hq⟩), fun _ => rfl⟩
                                · -- no
                                  try simp only [decide_eq_true_eq, decide_eq_false_iff_not, Bool.not_eq_true', Bool.not_eq_false', beq_iff_eq, bne_iff_ne, beq_eq_false_iff_ne, bne_eq_false_iff_eq, ne_eq, Decidable.not_not] at hc32
                                  refine ur_skip ?_
                                  refine ur_inBlock ?_
                                  refine ur_region rfl ?_
                                  refine ur_opw rfl rfl rfl rfl rfl (opv_move rfl rfl ?_)
                                  refine ur_opw rfl rfl rfl rfl rfl (opv_arith rfl rfl rfl rfl (by first | exact wi (by omega) | rfl) ?_)
                                  refine ur_opw rfl rfl rfl rfl rfl (opv_assign rfl rfl ?_)
                                  refine ur_region_end ?_
                                  refine ur_sub (l' := [(3, .int .i64 (i + 1 : Nat)), (1, .pointer (some ⟨b1, 0, none⟩))]) ⟨rfl, rfl, trivial⟩ ?_
                                  refine ih (n - 1) _ _ (by omega) ⟨i + 1, rfl, by omega, ?_, ?_, ?_, H.keep [0]⟩
                                  · intro j v hj hv
                                    by_cases e : j = i
                                    · subst e; rw [hx] at hv; cases hv; omega
                                    · exact hl0 j v (by omega) hv
                                  · intro _
                                    by_cases e : i = 0
                                    · subst e; rw [hp, show p = -1 from by omega]
                                    · exact hr0 (by omega)
                                  · intro j q hj hj0 hq
                                    by_cases e : j = i
                                    · subst e; rw [hp] at hq; cases hq; omega
                                    · exact ht0 j q (by omega) hj0 hq
                              · -- no
                                try simp only [decide_eq_true_eq, decide_eq_false_iff_not, Bool.not_eq_true', Bool.not_eq_false', beq_iff_eq, bne_iff_ne, beq_eq_false_iff_ne, bne_eq_false_iff_eq, ne_eq, Decidable.not_not] at hc31
                                refine ur_pass rfl rfl rfl rfl ?_
                                refine ur_pass rfl rfl rfl rfl ?_
                                refine ur_pass rfl rfl rfl rfl ?_
                                refine ur_pass rfl rfl rfl rfl ?_
                                refine ur_pass rfl rfl rfl rfl ?_
                                refine ur_pass rfl rfl rfl rfl ?_
                                refine ur_pass rfl rfl rfl rfl ?_
                                refine ur_pass rfl rfl rfl rfl ?_
                                refine ur_pass rfl rfl rfl rfl ?_
                                refine ur_opw rfl rfl rfl rfl rfl (opv_pick rfl rfl rfl ?_)
                                refine ur_opw rfl rfl rfl rfl rfl (opv_pick rfl rfl rfl ?_)
                                refine ur_region_end ?_
                                refine ur_condF rfl ?_
                                refine ur_skip ?_
                                refine ur_inBlock ?_
                                refine ur_region rfl ?_
                                refine ur_opw rfl rfl rfl rfl rfl (opv_move rfl rfl ?_)
                                refine ur_opw rfl rfl rfl rfl rfl (opv_arith rfl rfl rfl rfl (by first | exact wi (by omega) | rfl) ?_)
                                refine ur_opw rfl rfl rfl rfl rfl (opv_assign rfl rfl ?_)
                                refine ur_region_end ?_
                                refine ur_sub (l' := [(3, .int .i64 (i + 1 : Nat)), (1, .pointer (some ⟨b1, 0, none⟩))]) ⟨rfl, rfl, trivial⟩ ?_
                                refine ih (n - 1) _ _ (by omega) ⟨i + 1, rfl, by omega, ?_, ?_, ?_, H.keep [0]⟩
                                · intro j v hj hv
                                  by_cases e : j = i
                                  · subst e; rw [hx] at hv; cases hv; omega
                                  · exact hl0 j v (by omega) hv
                                · intro _
                                  by_cases e : i = 0
                                  · subst e; rw [hp, show p = -1 from by omega]
                                  · exact hr0 (by omega)
                                · intro j q hj hj0 hq
                                  by_cases e : j = i
                                  · subst e; rw [hp] at hq; cases hq; omega
                                  · exact ht0 j q (by omega) hj0 hq
                          · -- no
                            try simp only [decide_eq_true_eq, decide_eq_false_iff_not, Bool.not_eq_true', Bool.not_eq_false', beq_iff_eq, bne_iff_ne, beq_eq_false_iff_ne, bne_eq_false_iff_eq, ne_eq, Decidable.not_not] at hc29
                            refine ur_pass rfl rfl rfl rfl ?_
                            refine ur_pass rfl rfl rfl rfl ?_
                            refine ur_pass rfl rfl rfl rfl ?_
                            refine ur_pass rfl rfl rfl rfl ?_
                            refine ur_pass rfl rfl rfl rfl ?_
                            refine ur_pass rfl rfl rfl rfl ?_
                            refine ur_opw rfl rfl rfl rfl rfl (opv_pick rfl rfl rfl ?_)
                            refine ur_opw rfl rfl rfl rfl rfl (opv_pick rfl rfl rfl ?_)
                            refine ur_opw rfl rfl rfl rfl rfl (opv_move rfl rfl ?_)
                            refine ur_opw rfl rfl rfl rfl rfl (opv_move rfl rfl ?_)
                            refine ur_opw rfl rfl rfl rfl rfl (opv_cmp rfl rfl rfl rfl ?_)
                            refine ur_opw rfl rfl rfl rfl rfl (opv_move rfl rfl ?_)
                            refine ur_split 95 rfl (fun hc33 => ?_) (fun hc33 => ?_)
                            · -- yes
                              try simp only [decide_eq_true_eq, decide_eq_false_iff_not, Bool.not_eq_true', Bool.not_eq_false', beq_iff_eq, bne_iff_ne, beq_eq_false_iff_ne, bne_eq_false_iff_eq, ne_eq, Decidable.not_not] at hc33
                              refine ur_opw rfl rfl rfl rfl rfl (opv_fieldAddr0 rfl rfl rfl ?_)
                              refine ur_opw rfl rfl rfl rfl rfl (opv_load1 (by first | exact .inl (Has.has H) | exact .inr (Has.has HR)) rfl rfl (show (cfv c A)[6]? = some (.slice (some ⟨pb, poff, none⟩) c.parents.length A.pc) from by simp [cfv, epa]) ?_)
                              refine ur_opw rfl rfl rfl rfl rfl (opv_move rfl rfl ?_)
                              refine ur_opw rfl rfl rfl rfl rfl (opv_indexAt (r := poff + i) rfl rfl rfl ⟨by omega, by omega⟩ (by simp) ?_)
                              refine ur_opw rfl rfl rfl rfl rfl (opv_load1 (.inr hpb) rfl rfl hpv ?_)
                              refine ur_opw rfl rfl rfl rfl rfl (opv_move rfl rfl ?_)
                              refine ur_opw rfl rfl rfl rfl rfl (opv_arith rfl rfl rfl rfl (by first | exact wi (by omega) | rfl) ?_)
                              refine ur_opw rfl rfl rfl rfl rfl (opv_call rfl rfl rfl (opv_to [] [] H (fun F1 h1 hF HR1 H1 => lw_in) ?_))
                              rintro v h1 h ⟨rfl⟩ J
                              have H := J (LN := []) trivial
                              refine ur_opw rfl rfl rfl rfl rfl (opv_not rfl rfl ?_)
                              refine ur_opw rfl rfl rfl rfl rfl (opv_pick rfl rfl rfl ?_)
                              refine ur_opw rfl rfl rfl rfl rfl (opv_pick rfl rfl rfl ?_)
                              refine ur_region_end ?_
                              refine ur_cond rfl (fun hc34 => ?_) (fun hc34 => ?_)
                              · -- yes
                                try simp only [decide_eq_true_eq, decide_eq_false_iff_not, Bool.not_eq_true', Bool.not_eq_false', beq_iff_eq, bne_iff_ne, beq_eq_false_iff_ne, bne_eq_false_iff_eq, ne_eq, Decidable.not_not] at hc34
                                repeat refine ur_seq ?_
                                refine ur_region rfl ?_
                                refine ur_opw rfl rfl rfl rfl rfl (opv_assign rfl rfl ?_)
                                refine ur_region_end ?_
                                first
                                | exact ur_ret1 G Tryz.func23 rfl rfl ⟨false, rfl, fun q => (by cases q), fun o => (by
                                    exfalso
                                    have o1 := o.threads
                                    have o2 := o.stripes
                                    have o3 := o.gate
                                    have o4 := o.lease
                                    have o5 := o.retry
                                    have o6 := o.tickets
                                    have o7 := o.nodes
                                    have o8 := o.limlen
                                    omega)⟩
                                | exact ur_ret1 G Tryz.func23 rfl rfl ⟨false, rfl, fun q => (by cases q), fun o => (by
                                    exfalso
                                    have o9 := o.limits x (List.mem_of_getElem? hx)
                                    have o10 := o.root
                                    have o11 := o.tree i p
                                    first
                                    | omega
                                    | (have e : i = 0 := by omega
                                       subst e
                                       rw [hp] at o10
                                       injection o10 with o10
                                       omega)
                                    | (have o12 := o11 (by omega) hp
                                       omega))⟩
                                | exact ur_ret1 G Tryz.func23 rfl rfl ⟨true, rfl, fun _ => (by
                                    have hi : i = c.parents.length := by omega
                                    exact ⟨by omega, by omega, by omega, by omega, by omega, by omega, by omega, by omega, hlim (by omega), hroot (by omega), fun j q hj hq => htree j q (by have := (List.getElem?_eq_some_iff.1 hq).1; omega) hj hq⟩), fun _ => rfl⟩
                              · -- no
                                try simp only [decide_eq_true_eq, decide_eq_false_iff_not, Bool.not_eq_true', Bool.not_eq_false', beq_iff_eq, bne_iff_ne, beq_eq_false_iff_ne, bne_eq_false_iff_eq, ne_eq, Decidable.not_not] at hc34
                                refine ur_skip ?_
                                refine ur_inBlock ?_
                                refine ur_region rfl ?_
                                refine ur_opw rfl rfl rfl rfl rfl (opv_move rfl rfl ?_)
                                refine ur_opw rfl rfl rfl rfl rfl (opv_arith rfl rfl rfl rfl (by first | exact wi (by omega) | rfl) ?_)
                                refine ur_opw rfl rfl rfl rfl rfl (opv_assign rfl rfl ?_)
                                refine ur_region_end ?_
                                refine ur_sub (l' := [(3, .int .i64 (i + 1 : Nat)), (1, .pointer (some ⟨b1, 0, none⟩))]) ⟨rfl, rfl, trivial⟩ ?_
                                refine ih (n - 1) _ _ (by omega) ⟨i + 1, rfl, by omega, ?_, ?_, ?_, H.keep [0]⟩
                                · intro j v hj hv
                                  by_cases e : j = i
                                  · subst e; rw [hx] at hv; cases hv; omega
                                  · exact hl0 j v (by omega) hv
                                · intro _
                                  by_cases e : i = 0
                                  · subst e; rw [hp, show p = -1 from by omega]
                                  · exact hr0 (by omega)
                                · intro j q hj hj0 hq
                                  by_cases e : j = i
                                  · subst e; rw [hp] at hq; cases hq; omega
                                  · exact ht0 j q (by omega) hj0 hq
                            · -- no
                              try simp only [decide_eq_true_eq, decide_eq_false_iff_not, Bool.not_eq_true', Bool.not_eq_false', beq_iff_eq, bne_iff_ne, beq_eq_false_iff_ne, bne_eq_false_iff_eq, ne_eq, Decidable.not_not] at hc33
                              refine ur_pass rfl rfl rfl rfl ?_
                              refine ur_pass rfl rfl rfl rfl ?_
                              refine ur_pass rfl rfl rfl rfl ?_
                              refine ur_pass rfl rfl rfl rfl ?_
                              refine ur_pass rfl rfl rfl rfl ?_
                              refine ur_pass rfl rfl rfl rfl ?_
                              refine ur_pass rfl rfl rfl rfl ?_
                              refine ur_pass rfl rfl rfl rfl ?_
                              refine ur_pass rfl rfl rfl rfl ?_
                              refine ur_opw rfl rfl rfl rfl rfl (opv_pick rfl rfl rfl ?_)
                              refine ur_opw rfl rfl rfl rfl rfl (opv_pick rfl rfl rfl ?_)
                              refine ur_region_end ?_
                              refine ur_condF rfl ?_
                              refine ur_skip ?_
                              refine ur_inBlock ?_
                              refine ur_region rfl ?_
                              refine ur_opw rfl rfl rfl rfl rfl (opv_move rfl rfl ?_)
                              refine ur_opw rfl rfl rfl rfl rfl (opv_arith rfl rfl rfl rfl (by first | exact wi (by omega) | rfl) ?_)
                              refine ur_opw rfl rfl rfl rfl rfl (opv_assign rfl rfl ?_)
                              refine ur_region_end ?_
                              refine ur_sub (l' := [(3, .int .i64 (i + 1 : Nat)), (1, .pointer (some ⟨b1, 0, none⟩))]) ⟨rfl, rfl, trivial⟩ ?_
                              refine ih (n - 1) _ _ (by omega) ⟨i + 1, rfl, by omega, ?_, ?_, ?_, H.keep [0]⟩
                              · intro j v hj hv
                                by_cases e : j = i
                                · subst e; rw [hx] at hv; cases hv; omega
                                · exact hl0 j v (by omega) hv
                              · intro _
                                by_cases e : i = 0
                                · subst e; rw [hp, show p = -1 from by omega]
                                · exact hr0 (by omega)
                              · intro j q hj hj0 hq
                                by_cases e : j = i
                                · subst e; rw [hp] at hq; cases hq; omega
                                · exact ht0 j q (by omega) hj0 hq
                      · -- no
                        try simp only [decide_eq_true_eq, decide_eq_false_iff_not, Bool.not_eq_true', Bool.not_eq_false', beq_iff_eq, bne_iff_ne, beq_eq_false_iff_ne, bne_eq_false_iff_eq, ne_eq, Decidable.not_not] at hc27
                        have hlim : i = c.parents.length → ∀ v ∈ c.limits, 0 ≤ v ∧ v ≤ 1099511627776 := fun e v hv => by
                          obtain ⟨j, hj⟩ := List.mem_iff_getElem?.1 hv
                          exact hl0 j v (by have := (List.getElem?_eq_some_iff.1 hj).1; omega) hj
                        have hroot : 0 < i → c.parents[0]? = some (-1) := hr0
                        have htree := ht0
                        refine ur_exit rfl ?_
                        repeat refine ur_seq ?_
                        refine ur_region rfl ?_
                        refine ur_opw rfl rfl rfl rfl rfl (opv_assign rfl rfl ?_)
                        refine ur_region_end ?_
                        first
                        | exact ur_ret1 G Tryz.func23 rfl rfl ⟨false, rfl, fun q => (by cases q), fun o => (by
                            exfalso
                            have o1 := o.threads
                            have o2 := o.stripes
                            have o3 := o.gate
                            have o4 := o.lease
                            have o5 := o.retry
                            have o6 := o.tickets
                            have o7 := o.nodes
                            have o8 := o.limlen
                            omega)⟩
                        | exact ur_ret1 G Tryz.func23 rfl rfl ⟨false, rfl, fun q => (by cases q), fun o => (by
                            exfalso
                            have o9 := o.limits x (List.mem_of_getElem? hx)
                            have o10 := o.root
                            have o11 := o.tree i p
                            first
                            | omega
                            | (have e : i = 0 := by omega
                               subst e
                               rw [hp] at o10
                               injection o10 with o10
                               omega)
                            | (have o12 := o11 (by omega) hp
                               omega))⟩
                        | exact ur_ret1 G Tryz.func23 rfl rfl ⟨true, rfl, fun _ => (by
                            have hi : i = c.parents.length := by omega
                            exact ⟨by omega, by omega, by omega, by omega, by omega, by omega, by omega, by omega, hlim (by omega), hroot (by omega), fun j q hj hq => htree j q (by have := (List.getElem?_eq_some_iff.1 hq).1; omega) hj hq⟩), fun _ => rfl⟩
      · -- no
        try simp only [decide_eq_true_eq, decide_eq_false_iff_not, Bool.not_eq_true', Bool.not_eq_false', beq_iff_eq, bne_iff_ne, beq_eq_false_iff_ne, bne_eq_false_iff_eq, ne_eq, Decidable.not_not] at hc4
        refine ur_pass rfl rfl rfl rfl ?_
        refine ur_pass rfl rfl rfl rfl ?_
        refine ur_pass rfl rfl rfl rfl ?_
        refine ur_opw rfl rfl rfl rfl rfl (opv_pick rfl rfl rfl ?_)
        refine ur_opw rfl rfl rfl rfl rfl (opv_move rfl rfl ?_)
        refine ur_pass rfl rfl rfl rfl ?_
        refine ur_pass rfl rfl rfl rfl ?_
        refine ur_pass rfl rfl rfl rfl ?_
        refine ur_opw rfl rfl rfl rfl rfl (opv_pick rfl rfl rfl ?_)
        refine ur_opw rfl rfl rfl rfl rfl (opv_pick rfl rfl rfl ?_)
        refine ur_opw rfl rfl rfl rfl rfl (opv_move rfl rfl ?_)
        refine ur_opw rfl rfl rfl rfl rfl (opv_fieldAddr0 rfl rfl rfl ?_)
        refine ur_opw rfl rfl rfl rfl rfl (opv_load1 (by first | exact .inl (Has.has H) | exact .inr (Has.has HR)) rfl rfl rfl ?_)
        refine ur_opw rfl rfl rfl rfl rfl (opv_call rfl rfl rfl (opv_to [] [] H (fun F1 h1 hF HR1 H1 => lw_in) ?_))
        rintro v h1 h ⟨rfl⟩ J
        have H := J (LN := []) trivial
        refine ur_opw rfl rfl rfl rfl rfl (opv_not rfl rfl ?_)
        refine ur_opw rfl rfl rfl rfl rfl (opv_pick rfl rfl rfl ?_)
        refine ur_opw rfl rfl rfl rfl rfl (opv_move rfl rfl ?_)
        refine ur_split 34 rfl (fun hc35 => ?_) (fun hc35 => ?_)
        · -- yes
          try simp only [decide_eq_true_eq, decide_eq_false_iff_not, Bool.not_eq_true', Bool.not_eq_false', beq_iff_eq, bne_iff_ne, beq_eq_false_iff_ne, bne_eq_false_iff_eq, ne_eq, Decidable.not_not] at hc35
          refine ur_pass rfl rfl rfl rfl ?_
          refine ur_pass rfl rfl rfl rfl ?_
          refine ur_pass rfl rfl rfl rfl ?_
          refine ur_pass rfl rfl rfl rfl ?_
          refine ur_opw rfl rfl rfl rfl rfl (opv_pick rfl rfl rfl ?_)
          refine ur_opw rfl rfl rfl rfl rfl (opv_move rfl rfl ?_)
          refine ur_pass rfl rfl rfl rfl ?_
          refine ur_pass rfl rfl rfl rfl ?_
          refine ur_pass rfl rfl rfl rfl ?_
          refine ur_pass rfl rfl rfl rfl ?_
          refine ur_opw rfl rfl rfl rfl rfl (opv_pick rfl rfl rfl ?_)
          refine ur_opw rfl rfl rfl rfl rfl (opv_move rfl rfl ?_)
          refine ur_pass rfl rfl rfl rfl ?_
          refine ur_pass rfl rfl rfl rfl ?_
          refine ur_pass rfl rfl rfl rfl ?_
          refine ur_pass rfl rfl rfl rfl ?_
          refine ur_opw rfl rfl rfl rfl rfl (opv_pick rfl rfl rfl ?_)
          refine ur_region_end ?_
          repeat refine ur_seq ?_
          refine ur_condT rfl ?_
          repeat refine ur_seq ?_
          refine ur_region rfl ?_
          refine ur_opw rfl rfl rfl rfl rfl (opv_assign rfl rfl ?_)
          refine ur_region_end ?_
          first
          | exact ur_ret1 G Tryz.func23 rfl rfl ⟨false, rfl, fun q => (by cases q), fun o => (by
              exfalso
              have o1 := o.threads
              have o2 := o.stripes
              have o3 := o.gate
              have o4 := o.lease
              have o5 := o.retry
              have o6 := o.tickets
              have o7 := o.nodes
              have o8 := o.limlen
              omega)⟩
          | exact ur_ret1 G Tryz.func23 rfl rfl ⟨false, rfl, fun q => (by cases q), fun o => (by
              exfalso
              have o9 := o.limits x (List.mem_of_getElem? hx)
              have o10 := o.root
              have o11 := o.tree i p
              first
              | omega
              | (have e : i = 0 := by omega
                 subst e
                 rw [hp] at o10
                 injection o10 with o10
                 omega)
              | (have o12 := o11 (by omega) hp
                 omega))⟩
          | exact ur_ret1 G Tryz.func23 rfl rfl ⟨true, rfl, fun _ => (by
              have hi : i = c.parents.length := by omega
              exact ⟨by omega, by omega, by omega, by omega, by omega, by omega, by omega, by omega, hlim (by omega), hroot (by omega), fun j q hj hq => htree j q (by have := (List.getElem?_eq_some_iff.1 hq).1; omega) hj hq⟩), fun _ => rfl⟩
        · -- no
          try simp only [decide_eq_true_eq, decide_eq_false_iff_not, Bool.not_eq_true', Bool.not_eq_false', beq_iff_eq, bne_iff_ne, beq_eq_false_iff_ne, bne_eq_false_iff_eq, ne_eq, Decidable.not_not] at hc35
          refine ur_opw rfl rfl rfl rfl rfl (opv_fieldAddr0 rfl rfl rfl ?_)
          refine ur_opw rfl rfl rfl rfl rfl (opv_load1 (by first | exact .inl (Has.has H) | exact .inr (Has.has HR)) rfl rfl rfl ?_)
          refine ur_opw rfl rfl rfl rfl rfl (opv_call rfl rfl rfl (opv_to [] [] H (fun F1 h1 hF HR1 H1 => lw_in) ?_))
          rintro v h1 h ⟨rfl⟩ J
          have H := J (LN := []) trivial
          refine ur_opw rfl rfl rfl rfl rfl (opv_not rfl rfl ?_)
          refine ur_opw rfl rfl rfl rfl rfl (opv_pick rfl rfl rfl ?_)
          refine ur_opw rfl rfl rfl rfl rfl (opv_move rfl rfl ?_)
          refine ur_split 40 rfl (fun hc36 => ?_) (fun hc36 => ?_)
          · -- yes
            try simp only [decide_eq_true_eq, decide_eq_false_iff_not, Bool.not_eq_true', Bool.not_eq_false', beq_iff_eq, bne_iff_ne, beq_eq_false_iff_ne, bne_eq_false_iff_eq, ne_eq, Decidable.not_not] at hc36
            refine ur_pass rfl rfl rfl rfl ?_
            refine ur_pass rfl rfl rfl rfl ?_
            refine ur_pass rfl rfl rfl rfl ?_
            refine ur_pass rfl rfl rfl rfl ?_
            refine ur_opw rfl rfl rfl rfl rfl (opv_pick rfl rfl rfl ?_)
            refine ur_opw rfl rfl rfl rfl rfl (opv_move rfl rfl ?_)
            refine ur_pass rfl rfl rfl rfl ?_
            refine ur_pass rfl rfl rfl rfl ?_
            refine ur_pass rfl rfl rfl rfl ?_
            refine ur_pass rfl rfl rfl rfl ?_
            refine ur_opw rfl rfl rfl rfl rfl (opv_pick rfl rfl rfl ?_)
            refine ur_region_end ?_
            repeat refine ur_seq ?_
            refine ur_condT rfl ?_
            repeat refine ur_seq ?_
            refine ur_region rfl ?_
            refine ur_opw rfl rfl rfl rfl rfl (opv_assign rfl rfl ?_)
            refine ur_region_end ?_
            first
            | exact ur_ret1 G Tryz.func23 rfl rfl ⟨false, rfl, fun q => (by cases q), fun o => (by
                exfalso
                have o1 := o.threads
                have o2 := o.stripes
                have o3 := o.gate
                have o4 := o.lease
                have o5 := o.retry
                have o6 := o.tickets
                have o7 := o.nodes
                have o8 := o.limlen
                omega)⟩
            | exact ur_ret1 G Tryz.func23 rfl rfl ⟨false, rfl, fun q => (by cases q), fun o => (by
                exfalso
                have o9 := o.limits x (List.mem_of_getElem? hx)
                have o10 := o.root
                have o11 := o.tree i p
                first
                | omega
                | (have e : i = 0 := by omega
                   subst e
                   rw [hp] at o10
                   injection o10 with o10
                   omega)
                | (have o12 := o11 (by omega) hp
                   omega))⟩
            | exact ur_ret1 G Tryz.func23 rfl rfl ⟨true, rfl, fun _ => (by
                have hi : i = c.parents.length := by omega
                exact ⟨by omega, by omega, by omega, by omega, by omega, by omega, by omega, by omega, hlim (by omega), hroot (by omega), fun j q hj hq => htree j q (by have := (List.getElem?_eq_some_iff.1 hq).1; omega) hj hq⟩), fun _ => rfl⟩
          · -- no
            try simp only [decide_eq_true_eq, decide_eq_false_iff_not, Bool.not_eq_true', Bool.not_eq_false', beq_iff_eq, bne_iff_ne, beq_eq_false_iff_ne, bne_eq_false_iff_eq, ne_eq, Decidable.not_not] at hc36
            refine ur_opw rfl rfl rfl rfl rfl (opv_fieldAddr0 rfl rfl rfl ?_)
            refine ur_opw rfl rfl rfl rfl rfl (opv_load1 (by first | exact .inl (Has.has H) | exact .inr (Has.has HR)) rfl rfl rfl ?_)
            refine ur_opw rfl rfl rfl rfl rfl (opv_call rfl rfl rfl (opv_to [] [] H (fun F1 h1 hF HR1 H1 => lw_in) ?_))
            rintro v h1 h ⟨rfl⟩ J
            have H := J (LN := []) trivial
            refine ur_opw rfl rfl rfl rfl rfl (opv_not rfl rfl ?_)
            refine ur_opw rfl rfl rfl rfl rfl (opv_pick rfl rfl rfl ?_)
            refine ur_opw rfl rfl rfl rfl rfl (opv_move rfl rfl ?_)
            refine ur_split 46 rfl (fun hc37 => ?_) (fun hc37 => ?_)
            · -- yes
              try simp only [decide_eq_true_eq, decide_eq_false_iff_not, Bool.not_eq_true', Bool.not_eq_false', beq_iff_eq, bne_iff_ne, beq_eq_false_iff_ne, bne_eq_false_iff_eq, ne_eq, Decidable.not_not] at hc37
              refine ur_pass rfl rfl rfl rfl ?_
              refine ur_pass rfl rfl rfl rfl ?_
              refine ur_pass rfl rfl rfl rfl ?_
              refine ur_pass rfl rfl rfl rfl ?_
              refine ur_opw rfl rfl rfl rfl rfl (opv_pick rfl rfl rfl ?_)
              refine ur_region_end ?_
              repeat refine ur_seq ?_
              refine ur_condT rfl ?_
              repeat refine ur_seq ?_
              refine ur_region rfl ?_
              refine ur_opw rfl rfl rfl rfl rfl (opv_assign rfl rfl ?_)
              refine ur_region_end ?_
              first
              | exact ur_ret1 G Tryz.func23 rfl rfl ⟨false, rfl, fun q => (by cases q), fun o => (by
                  exfalso
                  have o1 := o.threads
                  have o2 := o.stripes
                  have o3 := o.gate
                  have o4 := o.lease
                  have o5 := o.retry
                  have o6 := o.tickets
                  have o7 := o.nodes
                  have o8 := o.limlen
                  omega)⟩
              | exact ur_ret1 G Tryz.func23 rfl rfl ⟨false, rfl, fun q => (by cases q), fun o => (by
                  exfalso
                  have o9 := o.limits x (List.mem_of_getElem? hx)
                  have o10 := o.root
                  have o11 := o.tree i p
                  first
                  | omega
                  | (have e : i = 0 := by omega
                     subst e
                     rw [hp] at o10
                     injection o10 with o10
                     omega)
                  | (have o12 := o11 (by omega) hp
                     omega))⟩
              | exact ur_ret1 G Tryz.func23 rfl rfl ⟨true, rfl, fun _ => (by
                  have hi : i = c.parents.length := by omega
                  exact ⟨by omega, by omega, by omega, by omega, by omega, by omega, by omega, by omega, hlim (by omega), hroot (by omega), fun j q hj hq => htree j q (by have := (List.getElem?_eq_some_iff.1 hq).1; omega) hj hq⟩), fun _ => rfl⟩
            · -- no
              try simp only [decide_eq_true_eq, decide_eq_false_iff_not, Bool.not_eq_true', Bool.not_eq_false', beq_iff_eq, bne_iff_ne, beq_eq_false_iff_ne, bne_eq_false_iff_eq, ne_eq, Decidable.not_not] at hc37
              refine ur_opw rfl rfl rfl rfl rfl (opv_fieldAddr0 rfl rfl rfl ?_)
              refine ur_opw rfl rfl rfl rfl rfl (opv_load1 (by first | exact .inl (Has.has H) | exact .inr (Has.has HR)) rfl rfl rfl ?_)
              refine ur_opw rfl rfl rfl rfl rfl (opv_call rfl rfl rfl (opv_to [] [] H (fun F1 h1 hF HR1 H1 => lw_in) ?_))
              rintro v h1 h ⟨rfl⟩ J
              have H := J (LN := []) trivial
              refine ur_opw rfl rfl rfl rfl rfl (opv_not rfl rfl ?_)
              refine ur_opw rfl rfl rfl rfl rfl (opv_pick rfl rfl rfl ?_)
              refine ur_region_end ?_
              repeat refine ur_seq ?_
              refine ur_cond rfl (fun hc38 => ?_) (fun hc38 => ?_)
              · -- yes
                try simp only [decide_eq_true_eq, decide_eq_false_iff_not, Bool.not_eq_true', Bool.not_eq_false', beq_iff_eq, bne_iff_ne, beq_eq_false_iff_ne, bne_eq_false_iff_eq, ne_eq, Decidable.not_not] at hc38
                repeat refine ur_seq ?_
                refine ur_region rfl ?_
                refine ur_opw rfl rfl rfl rfl rfl (opv_assign rfl rfl ?_)
                refine ur_region_end ?_
                first
                | exact ur_ret1 G Tryz.func23 rfl rfl ⟨false, rfl, fun q => (by cases q), fun o => (by
                    exfalso
                    have o1 := o.threads
                    have o2 := o.stripes
                    have o3 := o.gate
                    have o4 := o.lease
                    have o5 := o.retry
                    have o6 := o.tickets
                    have o7 := o.nodes
                    have o8 := o.limlen
                    omega)⟩
                | exact ur_ret1 G Tryz.func23 rfl rfl ⟨false, rfl, fun q => (by cases q), fun o => (by
                    exfalso
                    have o9 := o.limits x (List.mem_of_getElem? hx)
                    have o10 := o.root
                    have o11 := o.tree i p
                    first
                    | omega
                    | (have e : i = 0 := by omega
                       subst e
                       rw [hp] at o10
                       injection o10 with o10
                       omega)
                    | (have o12 := o11 (by omega) hp
                       omega))⟩
                | exact ur_ret1 G Tryz.func23 rfl rfl ⟨true, rfl, fun _ => (by
                    have hi : i = c.parents.length := by omega
                    exact ⟨by omega, by omega, by omega, by omega, by omega, by omega, by omega, by omega, hlim (by omega), hroot (by omega), fun j q hj hq => htree j q (by have := (List.getElem?_eq_some_iff.1 hq).1; omega) hj hq⟩), fun _ => rfl⟩
              · -- no
                try simp only [decide_eq_true_eq, decide_eq_false_iff_not, Bool.not_eq_true', Bool.not_eq_false', beq_iff_eq, bne_iff_ne, beq_eq_false_iff_ne, bne_eq_false_iff_eq, ne_eq, Decidable.not_not] at hc38
                refine ur_skip ?_
                repeat refine ur_seq ?_
                refine ur_region rfl ?_
                refine ur_opw rfl rfl rfl rfl rfl (opv_fieldAddr0 rfl rfl rfl ?_)
                refine ur_opw rfl rfl rfl rfl rfl (opv_load1 (by first | exact .inl (Has.has H) | exact .inr (Has.has HR)) rfl rfl rfl ?_)
                refine ur_opw rfl rfl rfl rfl rfl (opv_len rfl rfl ?_)
                refine ur_opw rfl rfl rfl rfl rfl (opv_call rfl rfl rfl (opv_to [] [] H (fun F1 h1 hF HR1 H1 => lw_in) ?_))
                rintro v h1 h ⟨rfl⟩ J
                have H := J (LN := []) trivial
                refine ur_opw rfl rfl rfl rfl rfl (opv_not rfl rfl ?_)
                refine ur_opw rfl rfl rfl rfl rfl (opv_move rfl rfl ?_)
                refine ur_split 57 rfl (fun hc39 => ?_) (fun hc39 => ?_)
                · -- yes
                  try simp only [decide_eq_true_eq, decide_eq_false_iff_not, Bool.not_eq_true', Bool.not_eq_false', beq_iff_eq, bne_iff_ne, beq_eq_false_iff_ne, bne_eq_false_iff_eq, ne_eq, Decidable.not_not] at hc39
                  refine ur_pass rfl rfl rfl rfl ?_
                  refine ur_pass rfl rfl rfl rfl ?_
                  refine ur_pass rfl rfl rfl rfl ?_
                  refine ur_pass rfl rfl rfl rfl ?_
                  refine ur_pass rfl rfl rfl rfl ?_
                  refine ur_pass rfl rfl rfl rfl ?_
                  refine ur_pass rfl rfl rfl rfl ?_
                  refine ur_opw rfl rfl rfl rfl rfl (opv_pick rfl rfl rfl ?_)
                  refine ur_region_end ?_
                  repeat refine ur_seq ?_
                  refine ur_condT rfl ?_
                  repeat refine ur_seq ?_
                  refine ur_region rfl ?_
                  refine ur_opw rfl rfl rfl rfl rfl (opv_assign rfl rfl ?_)
                  refine ur_region_end ?_
                  first
                  | exact ur_ret1 G Tryz.func23 rfl rfl ⟨false, rfl, fun q => (by cases q), fun o => (by
                      exfalso
                      have o1 := o.threads
                      have o2 := o.stripes
                      have o3 := o.gate
                      have o4 := o.lease
                      have o5 := o.retry
                      have o6 := o.tickets
                      have o7 := o.nodes
                      have o8 := o.limlen
                      omega)⟩
                  | exact ur_ret1 G Tryz.func23 rfl rfl ⟨false, rfl, fun q => (by cases q), fun o => (by
                      exfalso
                      have o9 := o.limits x (List.mem_of_getElem? hx)
                      have o10 := o.root
                      have o11 := o.tree i p
                      first
                      | omega
                      | (have e : i = 0 := by omega
                         subst e
                         rw [hp] at o10
                         injection o10 with o10
                         omega)
                      | (have o12 := o11 (by omega) hp
                         omega))⟩
                  | exact ur_ret1 G Tryz.func23 rfl rfl ⟨true, rfl, fun _ => (by
                      have hi : i = c.parents.length := by omega
                      exact ⟨by omega, by omega, by omega, by omega, by omega, by omega, by omega, by omega, hlim (by omega), hroot (by omega), fun j q hj hq => htree j q (by have := (List.getElem?_eq_some_iff.1 hq).1; omega) hj hq⟩), fun _ => rfl⟩
                · -- no
                  try simp only [decide_eq_true_eq, decide_eq_false_iff_not, Bool.not_eq_true', Bool.not_eq_false', beq_iff_eq, bne_iff_ne, beq_eq_false_iff_ne, bne_eq_false_iff_eq, ne_eq, Decidable.not_not] at hc39
                  refine ur_opw rfl rfl rfl rfl rfl (opv_fieldAddr0 rfl rfl rfl ?_)
                  refine ur_opw rfl rfl rfl rfl rfl (opv_load1 (by first | exact .inl (Has.has H) | exact .inr (Has.has HR)) rfl rfl rfl ?_)
                  refine ur_opw rfl rfl rfl rfl rfl (opv_len rfl rfl ?_)
                  refine ur_opw rfl rfl rfl rfl rfl (opv_fieldAddr0 rfl rfl rfl ?_)
                  refine ur_opw rfl rfl rfl rfl rfl (opv_load1 (by first | exact .inl (Has.has H) | exact .inr (Has.has HR)) rfl rfl rfl ?_)
                  refine ur_opw rfl rfl rfl rfl rfl (opv_len rfl rfl ?_)
                  refine ur_opw rfl rfl rfl rfl rfl (opv_cmp rfl rfl rfl rfl ?_)
                  refine ur_opw rfl rfl rfl rfl rfl (opv_pick rfl rfl rfl ?_)
                  refine ur_region_end ?_
                  repeat refine ur_seq ?_
                  refine ur_cond rfl (fun hc40 => ?_) (fun hc40 => ?_)
                  · -- yes
                    try simp only [decide_eq_true_eq, decide_eq_false_iff_not, Bool.not_eq_true', Bool.not_eq_false', beq_iff_eq, bne_iff_ne, beq_eq_false_iff_ne, bne_eq_false_iff_eq, ne_eq, Decidable.not_not] at hc40
                    repeat refine ur_seq ?_
                    refine ur_region rfl ?_
                    refine ur_opw rfl rfl rfl rfl rfl (opv_assign rfl rfl ?_)
                    refine ur_region_end ?_
                    first
                    | exact ur_ret1 G Tryz.func23 rfl rfl ⟨false, rfl, fun q => (by cases q), fun o => (by
                        exfalso
                        have o1 := o.threads
                        have o2 := o.stripes
                        have o3 := o.gate
                        have o4 := o.lease
                        have o5 := o.retry
                        have o6 := o.tickets
                        have o7 := o.nodes
                        have o8 := o.limlen
                        omega)⟩
                    | exact ur_ret1 G Tryz.func23 rfl rfl ⟨false, rfl, fun q => (by cases q), fun o => (by
                        exfalso
                        have o9 := o.limits x (List.mem_of_getElem? hx)
                        have o10 := o.root
                        have o11 := o.tree i p
                        first
                        | omega
                        | (have e : i = 0 := by omega
                           subst e
                           rw [hp] at o10
                           injection o10 with o10
                           omega)
                        | (have o12 := o11 (by omega) hp
                           omega))⟩
                    | exact ur_ret1 G Tryz.func23 rfl rfl ⟨true, rfl, fun _ => (by
                        have hi : i = c.parents.length := by omega
                        exact ⟨by omega, by omega, by omega, by omega, by omega, by omega, by omega, by omega, hlim (by omega), hroot (by omega), fun j q hj hq => htree j q (by have := (List.getElem?_eq_some_iff.1 hq).1; omega) hj hq⟩), fun _ => rfl⟩
                  · -- no
                    try simp only [decide_eq_true_eq, decide_eq_false_iff_not, Bool.not_eq_true', Bool.not_eq_false', beq_iff_eq, bne_iff_ne, beq_eq_false_iff_ne, bne_eq_false_iff_eq, ne_eq, Decidable.not_not] at hc40
                    refine ur_skip ?_
                    repeat refine ur_seq ?_
                    refine ur_region rfl ?_
                    refine ur_opw rfl rfl rfl rfl rfl (opv_assign rfl rfl ?_)
                    refine ur_region_end ?_
                    repeat refine ur_seq ?_
                    refine ur_block ?_
                    refine ur_sub (l' := [(3, .int .i64 (0 : Nat)), (1, .pointer (some ⟨b1, 0, none⟩))]) ⟨rfl, rfl, trivial⟩ ?_
                    refine ur_loop_inv (n := c.parents.length) (fun n l h => ∃ (i : Nat), l = [(3, .int .i64 (i : Nat)), (1, .pointer (some ⟨b1, 0, none⟩))] ∧ n + i = c.parents.length ∧ (∀ j v, j < i → c.limits[j]? = some v → 0 ≤ v ∧ v ≤ 1099511627776) ∧ (0 < i → c.parents[0]? = some (-1)) ∧ (∀ (j : Nat) (q : Int), j < i → 0 < j → c.parents[j]? = some q → 0 ≤ q ∧ q < j) ∧ Own [pt b1 (.cells (cfv c A).toArray 24 (0, 0))] h) ⟨0, rfl, by omega, fun j v hj => by omega, fun hj => by omega, fun j q hj => by omega, H.keep [0]⟩ ?_
                    rintro n ih l h ⟨i, rfl, hn, hl0, hr0, ht0, H⟩
                    repeat refine ur_seq ?_
                    refine ur_region rfl ?_
                    refine ur_opw rfl rfl rfl rfl rfl (opv_move rfl rfl ?_)
                    refine ur_opw rfl rfl rfl rfl rfl (opv_fieldAddr0 rfl rfl rfl ?_)
                    refine ur_opw rfl rfl rfl rfl rfl (opv_load1 (by first | exact .inl (Has.has H) | exact .inr (Has.has HR)) rfl rfl rfl ?_)
                    refine ur_opw rfl rfl rfl rfl rfl (opv_len rfl rfl ?_)
                    refine ur_opw rfl rfl rfl rfl rfl (opv_cmp rfl rfl rfl rfl ?_)
                    refine ur_region_end ?_
                    repeat refine ur_seq ?_
                    refine ur_cond rfl (fun hc41 => ?_) (fun hc41 => ?_)
                    · -- yes
                      try simp only [decide_eq_true_eq, decide_eq_false_iff_not, Bool.not_eq_true', Bool.not_eq_false', beq_iff_eq, bne_iff_ne, beq_eq_false_iff_ne, bne_eq_false_iff_eq, ne_eq, Decidable.not_not] at hc41
                      have hi : i < c.parents.length := by omega
                      obtain ⟨x, hx⟩ : ∃ x, c.limits[i]? = some x := ⟨_, List.getElem?_eq_getElem (by omega)⟩
                      obtain ⟨p, hp⟩ : ∃ p, c.parents[i]? = some p := ⟨_, List.getElem?_eq_getElem hi⟩
                      obtain ⟨lb, loff, lcs, lT, lfr, ela, hlb, hlv⟩ := R.l.at hx
                      obtain ⟨pb, poff, pcs, pT, pfr, epa, hpb, hpv⟩ := R.p.at hp
                      refine ur_skip ?_
                      repeat refine ur_seq ?_
                      refine ur_block ?_
                      repeat refine ur_seq ?_
                      refine ur_region rfl ?_
                      refine ur_opw rfl rfl rfl rfl rfl (opv_fieldAddr0 rfl rfl rfl ?_)
                      refine ur_opw rfl rfl rfl rfl rfl (opv_load1 (by first | exact .inl (Has.has H) | exact .inr (Has.has HR)) rfl rfl (show (cfv c A)[7]? = some (.slice (some ⟨lb, loff, none⟩) c.limits.length A.lc) from by simp [cfv, ela]) ?_)
                      refine ur_opw rfl rfl rfl rfl rfl (opv_move rfl rfl ?_)
                      refine ur_opw rfl rfl rfl rfl rfl (opv_indexAt (r := loff + i) rfl rfl rfl ⟨by omega, by omega⟩ (by simp) ?_)
                      refine ur_opw rfl rfl rfl rfl rfl (opv_load1 (.inr hlb) rfl rfl hlv ?_)
                      refine ur_opw rfl rfl rfl rfl rfl (opv_call rfl rfl rfl (opv_to [] [] H (fun F1 h1 hF HR1 H1 => lw_in) ?_))
                      rintro v h1 h ⟨rfl⟩ J
                      have H := J (LN := []) trivial
                      refine ur_opw rfl rfl rfl rfl rfl (opv_not rfl rfl ?_)
                      refine ur_opw rfl rfl rfl rfl rfl (opv_move rfl rfl ?_)
                      refine ur_split 80 rfl (fun hc42 => ?_) (fun hc42 => ?_)
                      · -- yes
                        try simp only [decide_eq_true_eq, decide_eq_false_iff_not, Bool.not_eq_true', Bool.not_eq_false', beq_iff_eq, bne_iff_ne, beq_eq_false_iff_ne, bne_eq_false_iff_eq, ne_eq, Decidable.not_not] at hc42
                        refine ur_pass rfl rfl rfl rfl ?_
                        refine ur_pass rfl rfl rfl rfl ?_
                        refine ur_pass rfl rfl rfl rfl ?_
                        refine ur_pass rfl rfl rfl rfl ?_
                        refine ur_pass rfl rfl rfl rfl ?_
                        refine ur_pass rfl rfl rfl rfl ?_
                        refine ur_pass rfl rfl rfl rfl ?_
                        refine ur_pass rfl rfl rfl rfl ?_
                        refine ur_pass rfl rfl rfl rfl ?_
                        refine ur_pass rfl rfl rfl rfl ?_
                        refine ur_opw rfl rfl rfl rfl rfl (opv_pick rfl rfl rfl ?_)
                        refine ur_opw rfl rfl rfl rfl rfl (opv_move rfl rfl ?_)
                        refine ur_pass rfl rfl rfl rfl ?_
                        refine ur_pass rfl rfl rfl rfl ?_
                        refine ur_pass rfl rfl rfl rfl ?_
                        refine ur_pass rfl rfl rfl rfl ?_
                        refine ur_pass rfl rfl rfl rfl ?_
                        refine ur_pass rfl rfl rfl rfl ?_
                        refine ur_pass rfl rfl rfl rfl ?_
                        refine ur_pass rfl rfl rfl rfl ?_
                        refine ur_pass rfl rfl rfl rfl ?_
                        refine ur_pass rfl rfl rfl rfl ?_
                        refine ur_pass rfl rfl rfl rfl ?_
                        refine ur_pass rfl rfl rfl rfl ?_
                        refine ur_pass rfl rfl rfl rfl ?_
                        refine ur_opw rfl rfl rfl rfl rfl (opv_pick rfl rfl rfl ?_)
                        refine ur_region_end ?_
                        refine ur_condT rfl ?_
                        repeat refine ur_seq ?_
                        refine ur_region rfl ?_
                        refine ur_opw rfl rfl rfl rfl rfl (opv_assign rfl rfl ?_)
                        refine ur_region_end ?_
                        first
                        | exact ur_ret1 G Tryz.func23 rfl rfl ⟨false, rfl, fun q => (by cases q), fun o => (by
                            exfalso
                            have o1 := o.threads
                            have o2 := o.stripes
                            have o3 := o.gate
                            have o4 := o.lease
                            have o5 := o.retry
                            have o6 := o.tickets
                            have o7 := o.nodes
                            have o8 := o.limlen
                            omega)⟩
                        | exact ur_ret1 G Tryz.func23 rfl rfl ⟨false, rfl, fun q => (by cases q), fun o => (by
                            exfalso
                            have o9 := o.limits x (List.mem_of_getElem? hx)
                            have o10 := o.root
                            have o11 := o.tree i p
                            first
                            | omega
                            | (have e : i = 0 := by omega
                               subst e
                               rw [hp] at o10
                               injection o10 with o10
                               omega)
                            | (have o12 := o11 (by omega) hp
                               omega))⟩
                        | exact ur_ret1 G Tryz.func23 rfl rfl ⟨true, rfl, fun _ => (by
                            have hi : i = c.parents.length := by omega
                            exact ⟨by omega, by omega, by omega, by omega, by omega, by omega, by omega, by omega, hlim (by omega), hroot (by omega), fun j q hj hq => htree j q (by have := (List.getElem?_eq_some_iff.1 hq).1; omega) hj hq⟩), fun _ => rfl⟩
                      · -- no
                        try simp only [decide_eq_true_eq, decide_eq_false_iff_not, Bool.not_eq_true', Bool.not_eq_false', beq_iff_eq, bne_iff_ne, beq_eq_false_iff_ne, bne_eq_false_iff_eq, ne_eq, Decidable.not_not] at hc42
                        refine ur_opw rfl rfl rfl rfl rfl (opv_move rfl rfl ?_)
                        refine ur_opw rfl rfl rfl rfl rfl (opv_cmp rfl rfl rfl rfl ?_)
                        refine ur_opw rfl rfl rfl rfl rfl (opv_move rfl rfl ?_)
                        refine ur_split 83 rfl (fun hc43 => ?_) (fun hc43 => ?_)
                        · -- yes
                          try simp only [decide_eq_true_eq, decide_eq_false_iff_not, Bool.not_eq_true', Bool.not_eq_false', beq_iff_eq, bne_iff_ne, beq_eq_false_iff_ne, bne_eq_false_iff_eq, ne_eq, Decidable.not_not] at hc43
                          refine ur_opw rfl rfl rfl rfl rfl (opv_fieldAddr0 rfl rfl rfl ?_)
                          refine ur_opw rfl rfl rfl rfl rfl (opv_load1 (by first | exact .inl (Has.has H) | exact .inr (Has.has HR)) rfl rfl (show (cfv c A)[6]? = some (.slice (some ⟨pb, poff, none⟩) c.parents.length A.pc) from by simp [cfv, epa]) ?_)
                          refine ur_opw rfl rfl rfl rfl rfl (opv_move rfl rfl ?_)
                          refine ur_opw rfl rfl rfl rfl rfl (opv_indexAt (r := poff + i) rfl rfl rfl ⟨by omega, by omega⟩ (by simp) ?_)
                          refine ur_opw rfl rfl rfl rfl rfl (opv_load1 (.inr hpb) rfl rfl hpv ?_)
                          refine ur_opw rfl rfl rfl rfl rfl (opv_cmp rfl rfl rfl rfl ?_)
                          refine ur_opw rfl rfl rfl rfl rfl (opv_pick rfl rfl rfl ?_)
                          refine ur_opw rfl rfl rfl rfl rfl (opv_pick rfl rfl rfl ?_)
                          refine ur_opw rfl rfl rfl rfl rfl (opv_move rfl rfl ?_)
                          refine ur_split 92 rfl (fun hc44 => ?_) (fun hc44 => ?_)
                          · -- yes
                            try simp only [decide_eq_true_eq, decide_eq_false_iff_not, Bool.not_eq_true', Bool.not_eq_false', beq_iff_eq, bne_iff_ne, beq_eq_false_iff_ne, bne_eq_false_iff_eq, ne_eq, Decidable.not_not] at hc44
                            refine ur_pass rfl rfl rfl rfl ?_
                            refine ur_pass rfl rfl rfl rfl ?_
                            refine ur_pass rfl rfl rfl rfl ?_
                            refine ur_pass rfl rfl rfl rfl ?_
                            refine ur_pass rfl rfl rfl rfl ?_
                            refine ur_pass rfl rfl rfl rfl ?_
                            refine ur_pass rfl rfl rfl rfl ?_
                            refine ur_pass rfl rfl rfl rfl ?_
                            refine ur_pass rfl rfl rfl rfl ?_
                            refine ur_pass rfl rfl rfl rfl ?_
                            refine ur_pass rfl rfl rfl rfl ?_
                            refine ur_pass rfl rfl rfl rfl ?_
                            refine ur_pass rfl rfl rfl rfl ?_
                            refine ur_opw rfl rfl rfl rfl rfl (opv_pick rfl rfl rfl ?_)
                            refine ur_region_end ?_
                            refine ur_condT rfl ?_
                            repeat refine ur_seq ?_
                            refine ur_region rfl ?_
                            refine ur_opw rfl rfl rfl rfl rfl (opv_assign rfl rfl ?_)
                            refine ur_region_end ?_
                            first
                            | exact ur_ret1 G Tryz.func23 rfl rfl ⟨false, rfl, fun q => (by cases q), fun o => (by
                                exfalso
                                have o1 := o.threads
                                have o2 := o.stripes
                                have o3 := o.gate
                                have o4 := o.lease
                                have o5 := o.retry
                                have o6 := o.tickets
                                have o7 := o.nodes
                                have o8 := o.limlen
                                omega)⟩
                            | exact ur_ret1 G Tryz.func23 rfl rfl ⟨false, rfl, fun q => (by cases q), fun o => (by
                                exfalso
                                have o9 := o.limits x (List.mem_of_getElem? hx)
                                have o10 := o.root
                                have o11 := o.tree i p
                                first
                                | omega
                                | (have e : i = 0 := by omega
                                   subst e
                                   rw [hp] at o10
                                   injection o10 with o10
                                   omega)
                                | (have o12 := o11 (by omega) hp
                                   omega))⟩
                            | exact ur_ret1 G Tryz.func23 rfl rfl ⟨true, rfl, fun _ => (by
                                have hi : i = c.parents.length := by omega
                                exact ⟨by omega, by omega, by omega, by omega, by omega, by omega, by omega, by omega, hlim (by omega), hroot (by omega), fun j q hj hq => htree j q (by have := (List.getElem?_eq_some_iff.1 hq).1; omega) hj hq⟩), fun _ => rfl⟩
                          · -- no
                            try simp only [decide_eq_true_eq, decide_eq_false_iff_not, Bool.not_eq_true', Bool.not_eq_false', beq_iff_eq, bne_iff_ne, beq_eq_false_iff_ne, bne_eq_false_iff_eq, ne_eq, Decidable.not_not] at hc44
                            refine ur_opw rfl rfl rfl rfl rfl (opv_move rfl rfl ?_)
                            refine ur_opw rfl rfl rfl rfl rfl (opv_cmp rfl rfl rfl rfl ?_)
                            refine ur_opw rfl rfl rfl rfl rfl (opv_move rfl rfl ?_)
                            refine ur_split 95 rfl (fun hc45 => ?_) (fun hc45 => ?_)
                            · -- yes
                              try simp only [decide_eq_true_eq, decide_eq_false_iff_not, Bool.not_eq_true', Bool.not_eq_false', beq_iff_eq, bne_iff_ne, beq_eq_false_iff_ne, bne_eq_false_iff_eq, ne_eq, Decidable.not_not] at hc45
                              refine ur_opw rfl rfl rfl rfl rfl (opv_fieldAddr0 rfl rfl rfl ?_)
                              refine ur_opw rfl rfl rfl rfl rfl (opv_load1 (by first | exact .inl (Has.has H) | exact .inr (Has.has HR)) rfl rfl (show (cfv c A)[6]? = some (.slice (some ⟨pb, poff, none⟩) c.parents.length A.pc) from by simp [cfv, epa]) ?_)
                              refine ur_opw rfl rfl rfl rfl rfl (opv_move rfl rfl ?_)
                              refine ur_opw rfl rfl rfl rfl rfl (opv_indexAt (r := poff + i) rfl rfl rfl ⟨by omega, by omega⟩ (by simp) ?_)
                              refine ur_opw rfl rfl rfl rfl rfl (opv_load1 (.inr hpb) rfl rfl hpv ?_)
                              refine ur_opw rfl rfl rfl rfl rfl (opv_move rfl rfl ?_)
                              refine ur_opw rfl rfl rfl rfl rfl (opv_arith rfl rfl rfl rfl (by first | exact wi (by omega) | rfl) ?_)
                              refine ur_opw rfl rfl rfl rfl rfl (opv_call rfl rfl rfl (opv_to [] [] H (fun F1 h1 hF HR1 H1 => lw_in) ?_))
                              rintro v h1 h ⟨rfl⟩ J
                              have H := J (LN := []) trivial
                              refine ur_opw rfl rfl rfl rfl rfl (opv_not rfl rfl ?_)
                              refine ur_opw rfl rfl rfl rfl rfl (opv_pick rfl rfl rfl ?_)
                              refine ur_opw rfl rfl rfl rfl rfl (opv_pick rfl rfl rfl ?_)
                              refine ur_region_end ?_
                              refine ur_cond rfl (fun hc46 => ?_) (fun hc46 => ?_)
                              · -- yes
                                try simp only [decide_eq_true_eq, decide_eq_false_iff_not, Bool.not_eq_true', Bool.not_eq_false', beq_iff_eq, bne_iff_ne, beq_eq_false_iff_ne, bne_eq_false_iff_eq, ne_eq, Decidable.not_not] at hc46
                                repeat refine ur_seq ?_
                                refine ur_region rfl ?_
                                refine ur_opw rfl rfl rfl rfl rfl (opv_assign rfl rfl ?_)
                                refine ur_region_end ?_
                                first
                                | exact ur_ret1 G Tryz.func23 rfl rfl ⟨false, rfl, fun q => (by cases q), fun o => (by
                                    exfalso
                                    have o1 := o.threads
                                    have o2 := o.stripes
                                    have o3 := o.gate
                                    have o4 := o.lease
                                    have o5 := o.retry
                                    have o6 := o.tickets
                                    have o7 := o.nodes
                                    have o8 := o.limlen
                                    omega)⟩
                                | exact ur_ret1 G Tryz.func23 rfl rfl ⟨false, rfl, fun q => (by cases q), fun o => (by
                                    exfalso
                                    have o9 := o.limits x (List.mem_of_getElem? hx)
                                    have o10 := o.root
                                    have o11 := o.tree i p
                                    first
                                    | omega
                                    | (have e : i = 0 := by omega
                                       subst e
                                       rw [hp] at o10
                                       injection o10 with o10
                                       omega)
                                    | (have o12 := o11 (by omega) hp
                                       omega))⟩
                                | exact ur_ret1 G Tryz.func23 rfl rfl ⟨true, rfl, fun _ => (by
                                    have hi : i = c.parents.length := by omega
                                    exact ⟨by omega, by omega, by omega, by omega, by omega, by omega, by omega, by omega, hlim (by omega), hroot (by omega), fun j q hj hq => htree j q (by have := (List.getElem?_eq_some_iff.1 hq).1; omega) hj hq⟩), fun _ => rfl⟩
                              · -- no
                                try simp only [decide_eq_true_eq, decide_eq_false_iff_not, Bool.not_eq_true', Bool.not_eq_false', beq_iff_eq, bne_iff_ne, beq_eq_false_iff_ne, bne_eq_false_iff_eq, ne_eq, Decidable.not_not] at hc46
                                refine ur_skip ?_
                                refine ur_inBlock ?_
                                refine ur_region rfl ?_
                                refine ur_opw rfl rfl rfl rfl rfl (opv_move rfl rfl ?_)
                                refine ur_opw rfl rfl rfl rfl rfl (opv_arith rfl rfl rfl rfl (by first | exact wi (by omega) | rfl) ?_)
                                refine ur_opw rfl rfl rfl rfl rfl (opv_assign rfl rfl ?_)
                                refine ur_region_end ?_
                                refine ur_sub (l' := [(3, .int .i64 (i + 1 : Nat)), (1, .pointer (some ⟨b1, 0, none⟩))]) ⟨rfl, rfl, trivial⟩ ?_
                                refine ih (n - 1) _ _ (by omega) ⟨i + 1, rfl, by omega, ?_, ?_, ?_, H.keep [0]⟩
                                · intro j v hj hv
                                  by_cases e : j = i
                                  · subst e; rw [hx] at hv; cases hv; omega
                                  · exact hl0 j v (by omega) hv
                                · intro _
                                  by_cases e : i = 0
                                  · subst e; rw [hp, show p = -1 from by omega]
                                  · exact hr0 (by omega)
                                · intro j q hj hj0 hq
                                  by_cases e : j = i
                                  · subst e; rw [hp] at hq; cases hq; omega
                                  · exact ht0 j q (by omega) hj0 hq
                            · -- no
                              try simp only [decide_eq_true_eq, decide_eq_false_iff_not, Bool.not_eq_true', Bool.not_eq_false', beq_iff_eq, bne_iff_ne, beq_eq_false_iff_ne, bne_eq_false_iff_eq, ne_eq, Decidable.not_not] at hc45
                              refine ur_pass rfl rfl rfl rfl ?_
                              refine ur_pass rfl rfl rfl rfl ?_
                              refine ur_pass rfl rfl rfl rfl ?_
                              refine ur_pass rfl rfl rfl rfl ?_
                              refine ur_pass rfl rfl rfl rfl ?_
                              refine ur_pass rfl rfl rfl rfl ?_
                              refine ur_pass rfl rfl rfl rfl ?_
                              refine ur_pass rfl rfl rfl rfl ?_
                              refine ur_pass rfl rfl rfl rfl ?_
                              refine ur_opw rfl rfl rfl rfl rfl (opv_pick rfl rfl rfl ?_)
                              refine ur_opw rfl rfl rfl rfl rfl (opv_pick rfl rfl rfl ?_)
                              refine ur_region_end ?_
                              refine ur_condF rfl ?_
                              refine ur_skip ?_
                              refine ur_inBlock ?_
                              refine ur_region rfl ?_
                              refine ur_opw rfl rfl rfl rfl rfl (opv_move rfl rfl ?_)
                              refine ur_opw rfl rfl rfl rfl rfl (opv_arith rfl rfl rfl rfl (by first | exact wi (by omega) | rfl) ?_)
                              refine ur_opw rfl rfl rfl rfl rfl (opv_assign rfl rfl ?_)
                              refine ur_region_end ?_
                              refine ur_sub (l' := [(3, .int .i64 (i + 1 : Nat)), (1, .pointer (some ⟨b1, 0, none⟩))]) ⟨rfl, rfl, trivial⟩ ?_
                              refine ih (n - 1) _ _ (by omega) ⟨i + 1, rfl, by omega, ?_, ?_, ?_, H.keep [0]⟩
                              · intro j v hj hv
                                by_cases e : j = i
                                · subst e; rw [hx] at hv; cases hv; omega
                                · exact hl0 j v (by omega) hv
                              · intro _
                                by_cases e : i = 0
                                · subst e; rw [hp, show p = -1 from by omega]
                                · exact hr0 (by omega)
                              · intro j q hj hj0 hq
                                by_cases e : j = i
                                · subst e; rw [hp] at hq; cases hq; omega
                                · exact ht0 j q (by omega) hj0 hq
                        · -- no
                          try simp only [decide_eq_true_eq, decide_eq_false_iff_not, Bool.not_eq_true', Bool.not_eq_false', beq_iff_eq, bne_iff_ne, beq_eq_false_iff_ne, bne_eq_false_iff_eq, ne_eq, Decidable.not_not] at hc43
                          refine ur_pass rfl rfl rfl rfl ?_
                          refine ur_pass rfl rfl rfl rfl ?_
                          refine ur_pass rfl rfl rfl rfl ?_
                          refine ur_pass rfl rfl rfl rfl ?_
                          refine ur_pass rfl rfl rfl rfl ?_
                          refine ur_pass rfl rfl rfl rfl ?_
                          refine ur_opw rfl rfl rfl rfl rfl (opv_pick rfl rfl rfl ?_)
                          refine ur_opw rfl rfl rfl rfl rfl (opv_pick rfl rfl rfl ?_)
                          refine ur_opw rfl rfl rfl rfl rfl (opv_move rfl rfl ?_)
                          refine ur_opw rfl rfl rfl rfl rfl (opv_move rfl rfl ?_)
                          refine ur_opw rfl rfl rfl rfl rfl (opv_cmp rfl rfl rfl rfl ?_)
                          refine ur_opw rfl rfl rfl rfl rfl (opv_move rfl rfl ?_)
                          refine ur_split 95 rfl (fun hc47 => ?_) (fun hc47 => ?_)
                          · -- yes
                            try simp only [decide_eq_true_eq, decide_eq_false_iff_not, Bool.not_eq_true', Bool.not_eq_false', beq_iff_eq, bne_iff_ne, beq_eq_false_iff_ne, bne_eq_false_iff_eq, ne_eq, Decidable.not_not] at hc47
                            refine ur_opw rfl rfl rfl rfl rfl (opv_fieldAddr0 rfl rfl rfl ?_)
                            refine ur_opw rfl rfl rfl rfl rfl (opv_load1 (by first | exact .inl (Has.has H) | exact .inr (Has.has HR)) rfl rfl (show (cfv c A)[6]? = some (.slice (some ⟨pb, poff, none⟩) c.parents.length A.pc) from by simp [cfv, epa]) ?_)
                            refine ur_opw rfl rfl rfl rfl rfl (opv_move rfl rfl ?_)
                            refine ur_opw rfl rfl rfl rfl rfl (opv_indexAt (r := poff + i) rfl rfl rfl ⟨by omega, by omega⟩ (by simp) ?_)
                            refine ur_opw rfl rfl rfl rfl rfl (opv_load1 (.inr hpb) rfl rfl hpv ?_)
                            refine ur_opw rfl rfl rfl rfl rfl (opv_move rfl rfl ?_)
                            refine ur_opw rfl rfl rfl rfl rfl (opv_arith rfl rfl rfl rfl (by first | exact wi (by omega) | rfl) ?_)
                            refine ur_opw rfl rfl rfl rfl rfl (opv_call rfl rfl rfl (opv_to [] [] H (fun F1 h1 hF HR1 H1 => lw_in) ?_))
                            rintro v h1 h ⟨rfl⟩ J
                            have H := J (LN := []) trivial
                            refine ur_opw rfl rfl rfl rfl rfl (opv_not rfl rfl ?_)
                            refine ur_opw rfl rfl rfl rfl rfl (opv_pick rfl rfl rfl ?_)
                            refine ur_opw rfl rfl rfl rfl rfl (opv_pick rfl rfl rfl ?_)
                            refine ur_region_end ?_
                            refine ur_cond rfl (fun hc48 => ?_) (fun hc48 => ?_)
                            · -- yes
                              try simp only [decide_eq_true_eq, decide_eq_false_iff_not, Bool.not_eq_true', Bool.not_eq_false', beq_iff_eq, bne_iff_ne, beq_eq_false_iff_ne, bne_eq_false_iff_eq, ne_eq, Decidable.not_not] at hc48
                              repeat refine ur_seq ?_
                              refine ur_region rfl ?_
                              refine ur_opw rfl rfl rfl rfl rfl (opv_assign rfl rfl ?_)
                              refine ur_region_end ?_
                              first
                              | exact ur_ret1 G Tryz.func23 rfl rfl ⟨false, rfl, fun q => (by cases q), fun o => (by
                                  exfalso
                                  have o1 := o.threads
                                  have o2 := o.stripes
                                  have o3 := o.gate
                                  have o4 := o.lease
                                  have o5 := o.retry
                                  have o6 := o.tickets
                                  have o7 := o.nodes
                                  have o8 := o.limlen
                                  omega)⟩
                              | exact ur_ret1 G Tryz.func23 rfl rfl ⟨false, rfl, fun q => (by cases q), fun o => (by
                                  exfalso
                                  have o9 := o.limits x (List.mem_of_getElem? hx)
                                  have o10 := o.root
                                  have o11 := o.tree i p
                                  first
                                  | omega
                                  | (have e : i = 0 := by omega
                                     subst e
                                     rw [hp] at o10
                                     injection o10 with o10
                                     omega)
                                  | (have o12 := o11 (by omega) hp
                                     omega))⟩
                              | exact ur_ret1 G Tryz.func23 rfl rfl ⟨true, rfl, fun _ => (by
                                  have hi : i = c.parents.length := by omega
                                  exact ⟨by omega, by omega, by omega, by omega, by omega, by omega, by omega, by omega, hlim (by omega), hroot (by omega), fun j q hj hq => htree j q (by have := (List.getElem?_eq_some_iff.1 hq).1; omega) hj hq⟩), fun _ => rfl⟩
                            · -- no
                              try simp only [decide_eq_true_eq, decide_eq_false_iff_not, Bool.not_eq_true', Bool.not_eq_false', beq_iff_eq, bne_iff_ne, beq_eq_false_iff_ne, bne_eq_false_iff_eq, ne_eq, Decidable.not_not] at hc48
                              refine ur_skip ?_
                              refine ur_inBlock ?_
                              refine ur_region rfl ?_
                              refine ur_opw rfl rfl rfl rfl rfl (opv_move rfl rfl ?_)
                              refine ur_opw rfl rfl rfl rfl rfl (opv_arith rfl rfl rfl rfl (by first | exact wi (by omega) | rfl) ?_)
                              refine ur_opw rfl rfl rfl rfl rfl (opv_assign rfl rfl ?_)
                              refine ur_region_end ?_
                              refine ur_sub (l' := [(3, .int .i64 (i + 1 : Nat)), (1, .pointer (some ⟨b1, 0, none⟩))]) ⟨rfl, rfl, trivial⟩ ?_
                              refine ih (n - 1) _ _ (by omega) ⟨i + 1, rfl, by omega, ?_, ?_, ?_, H.keep [0]⟩
                              · intro j v hj hv
                                by_cases e : j = i
                                · subst e; rw [hx] at hv; cases hv; omega
                                · exact hl0 j v (by omega) hv
                              · intro _
                                by_cases e : i = 0
                                · subst e; rw [hp, show p = -1 from by omega]
                                · exact hr0 (by omega)
                              · intro j q hj hj0 hq
                                by_cases e : j = i
                                · subst e; rw [hp] at hq; cases hq; omega
                                · exact ht0 j q (by omega) hj0 hq
                          · -- no
                            try simp only [decide_eq_true_eq, decide_eq_false_iff_not, Bool.not_eq_true', Bool.not_eq_false', beq_iff_eq, bne_iff_ne, beq_eq_false_iff_ne, bne_eq_false_iff_eq, ne_eq, Decidable.not_not] at hc47
                            refine ur_pass rfl rfl rfl rfl ?_
                            refine ur_pass rfl rfl rfl rfl ?_
                            refine ur_pass rfl rfl rfl rfl ?_
                            refine ur_pass rfl rfl rfl rfl ?_
                            refine ur_pass rfl rfl rfl rfl ?_
                            refine ur_pass rfl rfl rfl rfl ?_
                            refine ur_pass rfl rfl rfl rfl ?_
                            refine ur_pass rfl rfl rfl rfl ?_
                            refine ur_pass rfl rfl rfl rfl ?_
                            refine ur_opw rfl rfl rfl rfl rfl (opv_pick rfl rfl rfl ?_)
                            refine ur_opw rfl rfl rfl rfl rfl (opv_pick rfl rfl rfl ?_)
                            refine ur_region_end ?_
                            refine ur_condF rfl ?_
                            refine ur_skip ?_
                            refine ur_inBlock ?_
                            refine ur_region rfl ?_
                            refine ur_opw rfl rfl rfl rfl rfl (opv_move rfl rfl ?_)
                            refine ur_opw rfl rfl rfl rfl rfl (opv_arith rfl rfl rfl rfl (by first | exact wi (by omega) | rfl) ?_)
                            refine ur_opw rfl rfl rfl rfl rfl (opv_assign rfl rfl ?_)
                            refine ur_region_end ?_
                            refine ur_sub (l' := [(3, .int .i64 (i + 1 : Nat)), (1, .pointer (some ⟨b1, 0, none⟩))]) ⟨rfl, rfl, trivial⟩ ?_
                            refine ih (n - 1) _ _ (by omega) ⟨i + 1, rfl, by omega, ?_, ?_, ?_, H.keep [0]⟩
                            · intro j v hj hv
                              by_cases e : j = i
                              · subst e; rw [hx] at hv; cases hv; omega
                              · exact hl0 j v (by omega) hv
                            · intro _
                              by_cases e : i = 0
                              · subst e; rw [hp, show p = -1 from by omega]
                              · exact hr0 (by omega)
                            · intro j q hj hj0 hq
                              by_cases e : j = i
                              · subst e; rw [hp] at hq; cases hq; omega
                              · exact ht0 j q (by omega) hj0 hq
                    · -- no
                      try simp only [decide_eq_true_eq, decide_eq_false_iff_not, Bool.not_eq_true', Bool.not_eq_false', beq_iff_eq, bne_iff_ne, beq_eq_false_iff_ne, bne_eq_false_iff_eq, ne_eq, Decidable.not_not] at hc41
                      have hlim : i = c.parents.length → ∀ v ∈ c.limits, 0 ≤ v ∧ v ≤ 1099511627776 := fun e v hv => by
                        obtain ⟨j, hj⟩ := List.mem_iff_getElem?.1 hv
                        exact hl0 j v (by have := (List.getElem?_eq_some_iff.1 hj).1; omega) hj
                      have hroot : 0 < i → c.parents[0]? = some (-1) := hr0
                      have htree := ht0
                      refine ur_exit rfl ?_
                      repeat refine ur_seq ?_
                      refine ur_region rfl ?_
                      refine ur_opw rfl rfl rfl rfl rfl (opv_assign rfl rfl ?_)
                      refine ur_region_end ?_
                      first
                      | exact ur_ret1 G Tryz.func23 rfl rfl ⟨false, rfl, fun q => (by cases q), fun o => (by
                          exfalso
                          have o1 := o.threads
                          have o2 := o.stripes
                          have o3 := o.gate
                          have o4 := o.lease
                          have o5 := o.retry
                          have o6 := o.tickets
                          have o7 := o.nodes
                          have o8 := o.limlen
                          omega)⟩
                      | exact ur_ret1 G Tryz.func23 rfl rfl ⟨false, rfl, fun q => (by cases q), fun o => (by
                          exfalso
                          have o9 := o.limits x (List.mem_of_getElem? hx)
                          have o10 := o.root
                          have o11 := o.tree i p
                          first
                          | omega
                          | (have e : i = 0 := by omega
                             subst e
                             rw [hp] at o10
                             injection o10 with o10
                             omega)
                          | (have o12 := o11 (by omega) hp
                             omega))⟩
                      | exact ur_ret1 G Tryz.func23 rfl rfl ⟨true, rfl, fun _ => (by
                          have hi : i = c.parents.length := by omega
                          exact ⟨by omega, by omega, by omega, by omega, by omega, by omega, by omega, by omega, hlim (by omega), hroot (by omega), fun j q hj hq => htree j q (by have := (List.getElem?_eq_some_iff.1 hq).1; omega) hj hq⟩), fun _ => rfl⟩
    · -- no
      try simp only [decide_eq_true_eq, decide_eq_false_iff_not, Bool.not_eq_true', Bool.not_eq_false', beq_iff_eq, bne_iff_ne, beq_eq_false_iff_ne, bne_eq_false_iff_eq, ne_eq, Decidable.not_not] at hc3
      refine ur_pass rfl rfl rfl rfl ?_
      refine ur_pass rfl rfl rfl rfl ?_
      refine ur_pass rfl rfl rfl rfl ?_
      refine ur_opw rfl rfl rfl rfl rfl (opv_pick rfl rfl rfl ?_)
      refine ur_opw rfl rfl rfl rfl rfl (opv_move rfl rfl ?_)
      refine ur_pass rfl rfl rfl rfl ?_
      refine ur_pass rfl rfl rfl rfl ?_
      refine ur_pass rfl rfl rfl rfl ?_
      refine ur_opw rfl rfl rfl rfl rfl (opv_pick rfl rfl rfl ?_)
      refine ur_opw rfl rfl rfl rfl rfl (opv_move rfl rfl ?_)
      refine ur_pass rfl rfl rfl rfl ?_
      refine ur_pass rfl rfl rfl rfl ?_
      refine ur_pass rfl rfl rfl rfl ?_
      refine ur_opw rfl rfl rfl rfl rfl (opv_pick rfl rfl rfl ?_)
      refine ur_opw rfl rfl rfl rfl rfl (opv_pick rfl rfl rfl ?_)
      refine ur_opw rfl rfl rfl rfl rfl (opv_move rfl rfl ?_)
      refine ur_opw rfl rfl rfl rfl rfl (opv_fieldAddr0 rfl rfl rfl ?_)
      refine ur_opw rfl rfl rfl rfl rfl (opv_load1 (by first | exact .inl (Has.has H) | exact .inr (Has.has HR)) rfl rfl rfl ?_)
      refine ur_opw rfl rfl rfl rfl rfl (opv_call rfl rfl rfl (opv_to [] [] H (fun F1 h1 hF HR1 H1 => lw_in) ?_))
      rintro v h1 h ⟨rfl⟩ J
      have H := J (LN := []) trivial
      refine ur_opw rfl rfl rfl rfl rfl (opv_not rfl rfl ?_)
      refine ur_opw rfl rfl rfl rfl rfl (opv_pick rfl rfl rfl ?_)
      refine ur_opw rfl rfl rfl rfl rfl (opv_move rfl rfl ?_)
      refine ur_split 34 rfl (fun hc49 => ?_) (fun hc49 => ?_)
      · -- yes
        try simp only [decide_eq_true_eq, decide_eq_false_iff_not, Bool.not_eq_true', Bool.not_eq_false', beq_iff_eq, bne_iff_ne, beq_eq_false_iff_ne, bne_eq_false_iff_eq, ne_eq, Decidable.not_not] at hc49
        refine ur_pass rfl rfl rfl rfl ?_
        refine ur_pass rfl rfl rfl rfl ?_
        refine ur_pass rfl rfl rfl rfl ?_
        refine ur_pass rfl rfl rfl rfl ?_
        refine ur_opw rfl rfl rfl rfl rfl (opv_pick rfl rfl rfl ?_)
        refine ur_opw rfl rfl rfl rfl rfl (opv_move rfl rfl ?_)
        refine ur_pass rfl rfl rfl rfl ?_
        refine ur_pass rfl rfl rfl rfl ?_
        refine ur_pass rfl rfl rfl rfl ?_
        refine ur_pass rfl rfl rfl rfl ?_
        refine ur_opw rfl rfl rfl rfl rfl (opv_pick rfl rfl rfl ?_)
        refine ur_opw rfl rfl rfl rfl rfl (opv_move rfl rfl ?_)
        refine ur_pass rfl rfl rfl rfl ?_
        refine ur_pass rfl rfl rfl rfl ?_
        refine ur_pass rfl rfl rfl rfl ?_
        refine ur_pass rfl rfl rfl rfl ?_
        refine ur_opw rfl rfl rfl rfl rfl (opv_pick rfl rfl rfl ?_)
        refine ur_region_end ?_
        repeat refine ur_seq ?_
        refine ur_condT rfl ?_
        repeat refine ur_seq ?_
        refine ur_region rfl ?_
        refine ur_opw rfl rfl rfl rfl rfl (opv_assign rfl rfl ?_)
        refine ur_region_end ?_
        first
        | exact ur_ret1 G Tryz.func23 rfl rfl ⟨false, rfl, fun q => (by cases q), fun o => (by
            exfalso
            have o1 := o.threads
            have o2 := o.stripes
            have o3 := o.gate
            have o4 := o.lease
            have o5 := o.retry
            have o6 := o.tickets
            have o7 := o.nodes
            have o8 := o.limlen
            omega)⟩
        | exact ur_ret1 G Tryz.func23 rfl rfl ⟨false, rfl, fun q => (by cases q), fun o => (by
            exfalso
            have o9 := o.limits x (List.mem_of_getElem? hx)
            have o10 := o.root
            have o11 := o.tree i p
            first
            | omega
            | (have e : i = 0 := by omega
               subst e
               rw [hp] at o10
               injection o10 with o10
               omega)
            | (have o12 := o11 (by omega) hp
               omega))⟩
        | exact ur_ret1 G Tryz.func23 rfl rfl ⟨true, rfl, fun _ => (by
            have hi : i = c.parents.length := by omega
            exact ⟨by omega, by omega, by omega, by omega, by omega, by omega, by omega, by omega, hlim (by omega), hroot (by omega), fun j q hj hq => htree j q (by have := (List.getElem?_eq_some_iff.1 hq).1; omega) hj hq⟩), fun _ => rfl⟩
      · -- no
        try simp only [decide_eq_true_eq, decide_eq_false_iff_not, Bool.not_eq_true', Bool.not_eq_false', beq_iff_eq, bne_iff_ne, beq_eq_false_iff_ne, bne_eq_false_iff_eq, ne_eq, Decidable.not_not] at hc49
        refine ur_opw rfl rfl rfl rfl rfl (opv_fieldAddr0 rfl rfl rfl ?_)
        refine ur_opw rfl rfl rfl rfl rfl (opv_load1 (by first | exact .inl (Has.has H) | exact .inr (Has.has HR)) rfl rfl rfl ?_)
        refine ur_opw rfl rfl rfl rfl rfl (opv_call rfl rfl rfl (opv_to [] [] H (fun F1 h1 hF HR1 H1 => lw_in) ?_))
        rintro v h1 h ⟨rfl⟩ J
        have H := J (LN := []) trivial
        refine ur_opw rfl rfl rfl rfl rfl (opv_not rfl rfl ?_)
        refine ur_opw rfl rfl rfl rfl rfl (opv_pick rfl rfl rfl ?_)
        refine ur_opw rfl rfl rfl rfl rfl (opv_move rfl rfl ?_)
        refine ur_split 40 rfl (fun hc50 => ?_) (fun hc50 => ?_)
        · -- yes
          try simp only [decide_eq_true_eq, decide_eq_false_iff_not, Bool.not_eq_true', Bool.not_eq_false', beq_iff_eq, bne_iff_ne, beq_eq_false_iff_ne, bne_eq_false_iff_eq, ne_eq, Decidable.not_not] at hc50
          refine ur_pass rfl rfl rfl rfl ?_
          refine ur_pass rfl rfl rfl rfl ?_
          refine ur_pass rfl rfl rfl rfl ?_
          refine ur_pass rfl rfl rfl rfl ?_
          refine ur_opw rfl rfl rfl rfl rfl (opv_pick rfl rfl rfl ?_)
          refine ur_opw rfl rfl rfl rfl rfl (opv_move rfl rfl ?_)
          refine ur_pass rfl rfl rfl rfl ?_
          refine ur_pass rfl rfl rfl rfl ?_
          refine ur_pass rfl rfl rfl rfl ?_
          refine ur_pass rfl rfl rfl rfl ?_
          refine ur_opw rfl rfl rfl rfl rfl (opv_pick rfl rfl rfl ?_)
          refine ur_region_end ?_
          repeat refine ur_seq ?_
          refine ur_condT rfl ?_
          repeat refine ur_seq ?_
          refine ur_region rfl ?_
          refine ur_opw rfl rfl rfl rfl rfl (opv_assign rfl rfl ?_)
          refine ur_region_end ?_
          first
          | exact ur_ret1 G Tryz.func23 rfl rfl ⟨false, rfl, fun q => (by cases q), fun o => (by
              exfalso
              have o1 := o.threads
              have o2 := o.stripes
              have o3 := o.gate
              have o4 := o.lease
              have o5 := o.retry
              have o6 := o.tickets
              have o7 := o.nodes
              have o8 := o.limlen
              omega)⟩
          | exact ur_ret1 G Tryz.func23 rfl rfl ⟨false, rfl, fun q => (by cases q), fun o => (by
              exfalso
              have o9 := o.limits x (List.mem_of_getElem? hx)
              have o10 := o.root
              have o11 := o.tree i p
              first
              | omega
              | (have e : i = 0 := by omega
                 subst e
                 rw [hp] at o10
                 injection o10 with o10
                 omega)
              | (have o12 := o11 (by omega) hp
                 omega))⟩
          | exact ur_ret1 G Tryz.func23 rfl rfl ⟨true, rfl, fun _ => (by
              have hi : i = c.parents.length := by omega
              exact ⟨by omega, by omega, by omega, by omega, by omega, by omega, by omega, by omega, hlim (by omega), hroot (by omega), fun j q hj hq => htree j q (by have := (List.getElem?_eq_some_iff.1 hq).1; omega) hj hq⟩), fun _ => rfl⟩
        · -- no
          try simp only [decide_eq_true_eq, decide_eq_false_iff_not, Bool.not_eq_true', Bool.not_eq_false', beq_iff_eq, bne_iff_ne, beq_eq_false_iff_ne, bne_eq_false_iff_eq, ne_eq, Decidable.not_not] at hc50
          refine ur_opw rfl rfl rfl rfl rfl (opv_fieldAddr0 rfl rfl rfl ?_)
          refine ur_opw rfl rfl rfl rfl rfl (opv_load1 (by first | exact .inl (Has.has H) | exact .inr (Has.has HR)) rfl rfl rfl ?_)
          refine ur_opw rfl rfl rfl rfl rfl (opv_call rfl rfl rfl (opv_to [] [] H (fun F1 h1 hF HR1 H1 => lw_in) ?_))
          rintro v h1 h ⟨rfl⟩ J
          have H := J (LN := []) trivial
          refine ur_opw rfl rfl rfl rfl rfl (opv_not rfl rfl ?_)
          refine ur_opw rfl rfl rfl rfl rfl (opv_pick rfl rfl rfl ?_)
          refine ur_opw rfl rfl rfl rfl rfl (opv_move rfl rfl ?_)
          refine ur_split 46 rfl (fun hc51 => ?_) (fun hc51 => ?_)
          · -- yes
            try simp only [decide_eq_true_eq, decide_eq_false_iff_not, Bool.not_eq_true', Bool.not_eq_false', beq_iff_eq, bne_iff_ne, beq_eq_false_iff_ne, bne_eq_false_iff_eq, ne_eq, Decidable.not_not] at hc51
            refine ur_pass rfl rfl rfl rfl ?_
            refine ur_pass rfl rfl rfl rfl ?_
            refine ur_pass rfl rfl rfl rfl ?_
            refine ur_pass rfl rfl rfl rfl ?_
            refine ur_opw rfl rfl rfl rfl rfl (opv_pick rfl rfl rfl ?_)
            refine ur_region_end ?_
            repeat refine ur_seq ?_
            refine ur_condT rfl ?_
            repeat refine ur_seq ?_
            refine ur_region rfl ?_
            refine ur_opw rfl rfl rfl rfl rfl (opv_assign rfl rfl ?_)
            refine ur_region_end ?_
            first
            | exact ur_ret1 G Tryz.func23 rfl rfl ⟨false, rfl, fun q => (by cases q), fun o => (by
                exfalso
                have o1 := o.threads
                have o2 := o.stripes
                have o3 := o.gate
                have o4 := o.lease
                have o5 := o.retry
                have o6 := o.tickets
                have o7 := o.nodes
                have o8 := o.limlen
                omega)⟩
            | exact ur_ret1 G Tryz.func23 rfl rfl ⟨false, rfl, fun q => (by cases q), fun o => (by
                exfalso
                have o9 := o.limits x (List.mem_of_getElem? hx)
                have o10 := o.root
                have o11 := o.tree i p
                first
                | omega
                | (have e : i = 0 := by omega
                   subst e
                   rw [hp] at o10
                   injection o10 with o10
                   omega)
                | (have o12 := o11 (by omega) hp
                   omega))⟩
            | exact ur_ret1 G Tryz.func23 rfl rfl ⟨true, rfl, fun _ => (by
                have hi : i = c.parents.length := by omega
                exact ⟨by omega, by omega, by omega, by omega, by omega, by omega, by omega, by omega, hlim (by omega), hroot (by omega), fun j q hj hq => htree j q (by have := (List.getElem?_eq_some_iff.1 hq).1; omega) hj hq⟩), fun _ => rfl⟩
          · -- no
            try simp only [decide_eq_true_eq, decide_eq_false_iff_not, Bool.not_eq_true', Bool.not_eq_false', beq_iff_eq, bne_iff_ne, beq_eq_false_iff_ne, bne_eq_false_iff_eq, ne_eq, Decidable.not_not] at hc51
            refine ur_opw rfl rfl rfl rfl rfl (opv_fieldAddr0 rfl rfl rfl ?_)
            refine ur_opw rfl rfl rfl rfl rfl (opv_load1 (by first | exact .inl (Has.has H) | exact .inr (Has.has HR)) rfl rfl rfl ?_)
            refine ur_opw rfl rfl rfl rfl rfl (opv_call rfl rfl rfl (opv_to [] [] H (fun F1 h1 hF HR1 H1 => lw_in) ?_))
            rintro v h1 h ⟨rfl⟩ J
            have H := J (LN := []) trivial
            refine ur_opw rfl rfl rfl rfl rfl (opv_not rfl rfl ?_)
            refine ur_opw rfl rfl rfl rfl rfl (opv_pick rfl rfl rfl ?_)
            refine ur_region_end ?_
            repeat refine ur_seq ?_
            refine ur_cond rfl (fun hc52 => ?_) (fun hc52 => ?_)
            · -- yes
              try simp only [decide_eq_true_eq, decide_eq_false_iff_not, Bool.not_eq_true', Bool.not_eq_false', beq_iff_eq, bne_iff_ne, beq_eq_false_iff_ne, bne_eq_false_iff_eq, ne_eq, Decidable.not_not] at hc52
              repeat refine ur_seq ?_
              refine ur_region rfl ?_
              refine ur_opw rfl rfl rfl rfl rfl (opv_assign rfl rfl ?_)
              refine ur_region_end ?_
              first
              | exact ur_ret1 G Tryz.func23 rfl rfl ⟨false, rfl, fun q => (by cases q), fun o => (by
                  exfalso
                  have o1 := o.threads
                  have o2 := o.stripes
                  have o3 := o.gate
                  have o4 := o.lease
                  have o5 := o.retry
                  have o6 := o.tickets
                  have o7 := o.nodes
                  have o8 := o.limlen
                  omega)⟩
              | exact ur_ret1 G Tryz.func23 rfl rfl ⟨false, rfl, fun q => (by cases q), fun o => (by
                  exfalso
                  have o9 := o.limits x (List.mem_of_getElem? hx)
                  have o10 := o.root
                  have o11 := o.tree i p
                  first
                  | omega
                  | (have e : i = 0 := by omega
                     subst e
                     rw [hp] at o10
                     injection o10 with o10
                     omega)
                  | (have o12 := o11 (by omega) hp
                     omega))⟩
              | exact ur_ret1 G Tryz.func23 rfl rfl ⟨true, rfl, fun _ => (by
                  have hi : i = c.parents.length := by omega
                  exact ⟨by omega, by omega, by omega, by omega, by omega, by omega, by omega, by omega, hlim (by omega), hroot (by omega), fun j q hj hq => htree j q (by have := (List.getElem?_eq_some_iff.1 hq).1; omega) hj hq⟩), fun _ => rfl⟩
            · -- no
              try simp only [decide_eq_true_eq, decide_eq_false_iff_not, Bool.not_eq_true', Bool.not_eq_false', beq_iff_eq, bne_iff_ne, beq_eq_false_iff_ne, bne_eq_false_iff_eq, ne_eq, Decidable.not_not] at hc52
              refine ur_skip ?_
              repeat refine ur_seq ?_
              refine ur_region rfl ?_
              refine ur_opw rfl rfl rfl rfl rfl (opv_fieldAddr0 rfl rfl rfl ?_)
              refine ur_opw rfl rfl rfl rfl rfl (opv_load1 (by first | exact .inl (Has.has H) | exact .inr (Has.has HR)) rfl rfl rfl ?_)
              refine ur_opw rfl rfl rfl rfl rfl (opv_len rfl rfl ?_)
              refine ur_opw rfl rfl rfl rfl rfl (opv_call rfl rfl rfl (opv_to [] [] H (fun F1 h1 hF HR1 H1 => lw_in) ?_))
              rintro v h1 h ⟨rfl⟩ J
              have H := J (LN := []) trivial
              refine ur_opw rfl rfl rfl rfl rfl (opv_not rfl rfl ?_)
              refine ur_opw rfl rfl rfl rfl rfl (opv_move rfl rfl ?_)
              refine ur_split 57 rfl (fun hc53 => ?_) (fun hc53 => ?_)
              · -- yes
                try simp only [decide_eq_true_eq, decide_eq_false_iff_not, Bool.not_eq_true', Bool.not_eq_false', beq_iff_eq, bne_iff_ne, beq_eq_false_iff_ne, bne_eq_false_iff_eq, ne_eq, Decidable.not_not] at hc53
                refine ur_pass rfl rfl rfl rfl ?_
                refine ur_pass rfl rfl rfl rfl ?_
                refine ur_pass rfl rfl rfl rfl ?_
                refine ur_pass rfl rfl rfl rfl ?_
                refine ur_pass rfl rfl rfl rfl ?_
                refine ur_pass rfl rfl rfl rfl ?_
                refine ur_pass rfl rfl rfl rfl ?_
                refine ur_opw rfl rfl rfl rfl rfl (opv_pick rfl rfl rfl ?_)
                refine ur_region_end ?_
                repeat refine ur_seq ?_
                refine ur_condT rfl ?_
                repeat refine ur_seq ?_
                refine ur_region rfl ?_
                refine ur_opw rfl rfl rfl rfl rfl (opv_assign rfl rfl ?_)
                refine ur_region_end ?_
                first
                | exact ur_ret1 G Tryz.func23 rfl rfl ⟨false, rfl, fun q => (by cases q), fun o => (by
                    exfalso
                    have o1 := o.threads
                    have o2 := o.stripes
                    have o3 := o.gate
                    have o4 := o.lease
                    have o5 := o.retry
                    have o6 := o.tickets
                    have o7 := o.nodes
                    have o8 := o.limlen
                    omega)⟩
                | exact ur_ret1 G Tryz.func23 rfl rfl ⟨false, rfl, fun q => (by cases q), fun o => (by
                    exfalso
                    have o9 := o.limits x (List.mem_of_getElem? hx)
                    have o10 := o.root
                    have o11 := o.tree i p
                    first
                    | omega
                    | (have e : i = 0 := by omega
                       subst e
                       rw [hp] at o10
                       injection o10 with o10
                       omega)
                    | (have o12 := o11 (by omega) hp
                       omega))⟩
                | exact ur_ret1 G Tryz.func23 rfl rfl ⟨true, rfl, fun _ => (by
                    have hi : i = c.parents.length := by omega
                    exact ⟨by omega, by omega, by omega, by omega, by omega, by omega, by omega, by omega, hlim (by omega), hroot (by omega), fun j q hj hq => htree j q (by have := (List.getElem?_eq_some_iff.1 hq).1; omega) hj hq⟩), fun _ => rfl⟩
              · -- no
                try simp only [decide_eq_true_eq, decide_eq_false_iff_not, Bool.not_eq_true', Bool.not_eq_false', beq_iff_eq, bne_iff_ne, beq_eq_false_iff_ne, bne_eq_false_iff_eq, ne_eq, Decidable.not_not] at hc53
                refine ur_opw rfl rfl rfl rfl rfl (opv_fieldAddr0 rfl rfl rfl ?_)
                refine ur_opw rfl rfl rfl rfl rfl (opv_load1 (by first | exact .inl (Has.has H) | exact .inr (Has.has HR)) rfl rfl rfl ?_)
                refine ur_opw rfl rfl rfl rfl rfl (opv_len rfl rfl ?_)
                refine ur_opw rfl rfl rfl rfl rfl (opv_fieldAddr0 rfl rfl rfl ?_)
                refine ur_opw rfl rfl rfl rfl rfl (opv_load1 (by first | exact .inl (Has.has H) | exact .inr (Has.has HR)) rfl rfl rfl ?_)
                refine ur_opw rfl rfl rfl rfl rfl (opv_len rfl rfl ?_)
                refine ur_opw rfl rfl rfl rfl rfl (opv_cmp rfl rfl rfl rfl ?_)
                refine ur_opw rfl rfl rfl rfl rfl (opv_pick rfl rfl rfl ?_)
                refine ur_region_end ?_
                repeat refine ur_seq ?_
                refine ur_cond rfl (fun hc54 => ?_) (fun hc54 => ?_)
                · -- yes
                  try simp only [decide_eq_true_eq, decide_eq_false_iff_not, Bool.not_eq_true', Bool.not_eq_false', beq_iff_eq, bne_iff_ne, beq_eq_false_iff_ne, bne_eq_false_iff_eq, ne_eq, Decidable.not_not] at hc54
                  repeat refine ur_seq ?_
                  refine ur_region rfl ?_
                  refine ur_opw rfl rfl rfl rfl rfl (opv_assign rfl rfl ?_)
                  refine ur_region_end ?_
                  first
                  | exact ur_ret1 G Tryz.func23 rfl rfl ⟨false, rfl, fun q => (by cases q), fun o => (by
                      exfalso
                      have o1 := o.threads
                      have o2 := o.stripes
                      have o3 := o.gate
                      have o4 := o.lease
                      have o5 := o.retry
                      have o6 := o.tickets
                      have o7 := o.nodes
                      have o8 := o.limlen
                      omega)⟩
                  | exact ur_ret1 G Tryz.func23 rfl rfl ⟨false, rfl, fun q => (by cases q), fun o => (by
                      exfalso
                      have o9 := o.limits x (List.mem_of_getElem? hx)
                      have o10 := o.root
                      have o11 := o.tree i p
                      first
                      | omega
                      | (have e : i = 0 := by omega
                         subst e
                         rw [hp] at o10
                         injection o10 with o10
                         omega)
                      | (have o12 := o11 (by omega) hp
                         omega))⟩
                  | exact ur_ret1 G Tryz.func23 rfl rfl ⟨true, rfl, fun _ => (by
                      have hi : i = c.parents.length := by omega
                      exact ⟨by omega, by omega, by omega, by omega, by omega, by omega, by omega, by omega, hlim (by omega), hroot (by omega), fun j q hj hq => htree j q (by have := (List.getElem?_eq_some_iff.1 hq).1; omega) hj hq⟩), fun _ => rfl⟩
                · -- no
                  try simp only [decide_eq_true_eq, decide_eq_false_iff_not, Bool.not_eq_true', Bool.not_eq_false', beq_iff_eq, bne_iff_ne, beq_eq_false_iff_ne, bne_eq_false_iff_eq, ne_eq, Decidable.not_not] at hc54
                  refine ur_skip ?_
                  repeat refine ur_seq ?_
                  refine ur_region rfl ?_
                  refine ur_opw rfl rfl rfl rfl rfl (opv_assign rfl rfl ?_)
                  refine ur_region_end ?_
                  repeat refine ur_seq ?_
                  refine ur_block ?_
                  refine ur_sub (l' := [(3, .int .i64 (0 : Nat)), (1, .pointer (some ⟨b1, 0, none⟩))]) ⟨rfl, rfl, trivial⟩ ?_
                  refine ur_loop_inv (n := c.parents.length) (fun n l h => ∃ (i : Nat), l = [(3, .int .i64 (i : Nat)), (1, .pointer (some ⟨b1, 0, none⟩))] ∧ n + i = c.parents.length ∧ (∀ j v, j < i → c.limits[j]? = some v → 0 ≤ v ∧ v ≤ 1099511627776) ∧ (0 < i → c.parents[0]? = some (-1)) ∧ (∀ (j : Nat) (q : Int), j < i → 0 < j → c.parents[j]? = some q → 0 ≤ q ∧ q < j) ∧ Own [pt b1 (.cells (cfv c A).toArray 24 (0, 0))] h) ⟨0, rfl, by omega, fun j v hj => by omega, fun hj => by omega, fun j q hj => by omega, H.keep [0]⟩ ?_
                  rintro n ih l h ⟨i, rfl, hn, hl0, hr0, ht0, H⟩
                  repeat refine ur_seq ?_
                  refine ur_region rfl ?_
                  refine ur_opw rfl rfl rfl rfl rfl (opv_move rfl rfl ?_)
                  refine ur_opw rfl rfl rfl rfl rfl (opv_fieldAddr0 rfl rfl rfl ?_)
                  refine ur_opw rfl rfl rfl rfl rfl (opv_load1 (by first | exact .inl (Has.has H) | exact .inr (Has.has HR)) rfl rfl rfl ?_)
                  refine ur_opw rfl rfl rfl rfl rfl (opv_len rfl rfl ?_)
                  refine ur_opw rfl rfl rfl rfl rfl (opv_cmp rfl rfl rfl rfl ?_)
                  refine ur_region_end ?_
                  repeat refine ur_seq ?_
                  refine ur_cond rfl (fun hc55 => ?_) (fun hc55 => ?_)
                  · -- yes
                    try simp only [decide_eq_true_eq, decide_eq_false_iff_not, Bool.not_eq_true', Bool.not_eq_false', beq_iff_eq, bne_iff_ne, beq_eq_false_iff_ne, bne_eq_false_iff_eq, ne_eq, Decidable.not_not] at hc55
                    have hi : i < c.parents.length := by omega
                    obtain ⟨x, hx⟩ : ∃ x, c.limits[i]? = some x := ⟨_, List.getElem?_eq_getElem (by omega)⟩
                    obtain ⟨p, hp⟩ : ∃ p, c.parents[i]? = some p := ⟨_, List.getElem?_eq_getElem hi⟩
                    obtain ⟨lb, loff, lcs, lT, lfr, ela, hlb, hlv⟩ := R.l.at hx
                    obtain ⟨pb, poff, pcs, pT, pfr, epa, hpb, hpv⟩ := R.p.at hp
                    refine ur_skip ?_
                    repeat refine ur_seq ?_
                    refine ur_block ?_
                    repeat refine ur_seq ?_
                    refine ur_region rfl ?_
                    refine ur_opw rfl rfl rfl rfl rfl (opv_fieldAddr0 rfl rfl rfl ?_)
                    refine ur_opw rfl rfl rfl rfl rfl (opv_load1 (by first | exact .inl (Has.has H) | exact .inr (Has.has HR)) rfl rfl (show (cfv c A)[7]? = some (.slice (some ⟨lb, loff, none⟩) c.limits.length A.lc) from by simp [cfv, ela]) ?_)
                    refine ur_opw rfl rfl rfl rfl rfl (opv_move rfl rfl ?_)
                    refine ur_opw rfl rfl rfl rfl rfl (opv_indexAt (r := loff + i) rfl rfl rfl ⟨by omega, by omega⟩ (by simp) ?_)
                    refine ur_opw rfl rfl rfl rfl rfl (opv_load1 (.inr hlb) rfl rfl hlv ?_)
                    refine ur_opw rfl rfl rfl rfl rfl (opv_call rfl rfl rfl (opv_to [] [] H (fun F1 h1 hF HR1 H1 => lw_in) ?_))
                    rintro v h1 h ⟨rfl⟩ J
                    have H := J (LN := []) trivial
                    refine ur_opw rfl rfl rfl rfl rfl (opv_not rfl rfl ?_)
                    refine ur_opw rfl rfl rfl rfl rfl (opv_move rfl rfl ?_)
                    refine ur_split 80 rfl (fun hc56 => ?_) (fun hc56 => ?_)
                    · -- yes
                      try simp only [decide_eq_true_eq, decide_eq_false_iff_not, Bool.not_eq_true', Bool.not_eq_false', beq_iff_eq, bne_iff_ne, beq_eq_false_iff_ne, bne_eq_false_iff_eq, ne_eq, Decidable.not_not] at hc56
                      refine ur_pass rfl rfl rfl rfl ?_
                      refine ur_pass rfl rfl rfl rfl ?_
                      refine ur_pass rfl rfl rfl rfl ?_
                      refine ur_pass rfl rfl rfl rfl ?_
                      refine ur_pass rfl rfl rfl rfl ?_
                      refine ur_pass rfl rfl rfl rfl ?_
                      refine ur_pass rfl rfl rfl rfl ?_
                      refine ur_pass rfl rfl rfl rfl ?_
                      refine ur_pass rfl rfl rfl rfl ?_
                      refine ur_pass rfl rfl rfl rfl ?_
                      refine ur_opw rfl rfl rfl rfl rfl (opv_pick rfl rfl rfl ?_)
                      refine ur_opw rfl rfl rfl rfl rfl (opv_move rfl rfl ?_)
                      refine ur_pass rfl rfl rfl rfl ?_
                      refine ur_pass rfl rfl rfl rfl ?_
                      refine ur_pass rfl rfl rfl rfl ?_
                      refine ur_pass rfl rfl rfl rfl ?_
                      refine ur_pass rfl rfl rfl rfl ?_
                      refine ur_pass rfl rfl rfl rfl ?_
                      refine ur_pass rfl rfl rfl rfl ?_
                      refine ur_pass rfl rfl rfl rfl ?_
                      refine ur_pass rfl rfl rfl rfl ?_
                      refine ur_pass rfl rfl rfl rfl ?_
                      refine ur_pass rfl rfl rfl rfl ?_
                      refine ur_pass rfl rfl rfl rfl ?_
                      refine ur_pass rfl rfl rfl rfl ?_
                      refine ur_opw rfl rfl rfl rfl rfl (opv_pick rfl rfl rfl ?_)
                      refine ur_region_end ?_
                      refine ur_condT rfl ?_
                      repeat refine ur_seq ?_
                      refine ur_region rfl ?_
                      refine ur_opw rfl rfl rfl rfl rfl (opv_assign rfl rfl ?_)
                      refine ur_region_end ?_
                      first
                      | exact ur_ret1 G Tryz.func23 rfl rfl ⟨false, rfl, fun q => (by cases q), fun o => (by
                          exfalso
                          have o1 := o.threads
                          have o2 := o.stripes
                          have o3 := o.gate
                          have o4 := o.lease
                          have o5 := o.retry
                          have o6 := o.tickets
                          have o7 := o.nodes
                          have o8 := o.limlen
                          omega)⟩
                      | exact ur_ret1 G Tryz.func23 rfl rfl ⟨false, rfl, fun q => (by cases q), fun o => (by
                          exfalso
                          have o9 := o.limits x (List.mem_of_getElem? hx)
                          have o10 := o.root
                          have o11 := o.tree i p
                          first
                          | omega
                          | (have e : i = 0 := by omega
                             subst e
                             rw [hp] at o10
                             injection o10 with o10
                             omega)
                          | (have o12 := o11 (by omega) hp
                             omega))⟩
                      | exact ur_ret1 G Tryz.func23 rfl rfl ⟨true, rfl, fun _ => (by
                          have hi : i = c.parents.length := by omega
                          exact ⟨by omega, by omega, by omega, by omega, by omega, by omega, by omega, by omega, hlim (by omega), hroot (by omega), fun j q hj hq => htree j q (by have := (List.getElem?_eq_some_iff.1 hq).1; omega) hj hq⟩), fun _ => rfl⟩
                    · -- no
                      try simp only [decide_eq_true_eq, decide_eq_false_iff_not, Bool.not_eq_true', Bool.not_eq_false', beq_iff_eq, bne_iff_ne, beq_eq_false_iff_ne, bne_eq_false_iff_eq, ne_eq, Decidable.not_not] at hc56
                      refine ur_opw rfl rfl rfl rfl rfl (opv_move rfl rfl ?_)
                      refine ur_opw rfl rfl rfl rfl rfl (opv_cmp rfl rfl rfl rfl ?_)
                      refine ur_opw rfl rfl rfl rfl rfl (opv_move rfl rfl ?_)
                      refine ur_split 83 rfl (fun hc57 => ?_) (fun hc57 => ?_)
                      · -- yes
                        try simp only [decide_eq_true_eq, decide_eq_false_iff_not, Bool.not_eq_true', Bool.not_eq_false', beq_iff_eq, bne_iff_ne, beq_eq_false_iff_ne, bne_eq_false_iff_eq, ne_eq, Decidable.not_not] at hc57
                        refine ur_opw rfl rfl rfl rfl rfl (opv_fieldAddr0 rfl rfl rfl ?_)
                        refine ur_opw rfl rfl rfl rfl rfl (opv_load1 (by first | exact .inl (Has.has H) | exact .inr (Has.has HR)) rfl rfl (show (cfv c A)[6]? = some (.slice (some ⟨pb, poff, none⟩) c.parents.length A.pc) from by simp [cfv, epa]) ?_)
                        refine ur_opw rfl rfl rfl rfl rfl (opv_move rfl rfl ?_)
                        refine ur_opw rfl rfl rfl rfl rfl (opv_indexAt (r := poff + i) rfl rfl rfl ⟨by omega, by omega⟩ (by simp) ?_)
                        refine ur_opw rfl rfl rfl rfl rfl (opv_load1 (.inr hpb) rfl rfl hpv ?_)
                        refine ur_opw rfl rfl rfl rfl rfl (opv_cmp rfl rfl rfl rfl ?_)
                        refine ur_opw rfl rfl rfl rfl rfl (opv_pick rfl rfl rfl ?_)
                        refine ur_opw rfl rfl rfl rfl rfl (opv_pick rfl rfl rfl ?_)
                        refine ur_opw rfl rfl rfl rfl rfl (opv_move rfl rfl ?_)
                        refine ur_split 92 rfl (fun hc58 => ?_) (fun hc58 => ?_)
                        · -- yes
                          try simp only [decide_eq_true_eq, decide_eq_false_iff_not, Bool.not_eq_true', Bool.not_eq_false', beq_iff_eq, bne_iff_ne, beq_eq_false_iff_ne, bne_eq_false_iff_eq, ne_eq, Decidable.not_not] at hc58
                          refine ur_pass rfl rfl rfl rfl ?_
                          refine ur_pass rfl rfl rfl rfl ?_
                          refine ur_pass rfl rfl rfl rfl ?_
                          refine ur_pass rfl rfl rfl rfl ?_
                          refine ur_pass rfl rfl rfl rfl ?_
                          refine ur_pass rfl rfl rfl rfl ?_
                          refine ur_pass rfl rfl rfl rfl ?_
                          refine ur_pass rfl rfl rfl rfl ?_
                          refine ur_pass rfl rfl rfl rfl ?_
                          refine ur_pass rfl rfl rfl rfl ?_
                          refine ur_pass rfl rfl rfl rfl ?_
                          refine ur_pass rfl rfl rfl rfl ?_
                          refine ur_pass rfl rfl rfl rfl ?_
                          refine ur_opw rfl rfl rfl rfl rfl (opv_pick rfl rfl rfl ?_)
                          refine ur_region_end ?_
                          refine ur_condT rfl ?_
                          repeat refine ur_seq ?_
                          refine ur_region rfl ?_
                          refine ur_opw rfl rfl rfl rfl rfl (opv_assign rfl rfl ?_)
                          refine ur_region_end ?_
                          first
                          | exact ur_ret1 G Tryz.func23 rfl rfl ⟨false, rfl, fun q => (by cases q), fun o => (by
                              exfalso
                              have o1 := o.threads
                              have o2 := o.stripes
                              have o3 := o.gate
                              have o4 := o.lease
                              have o5 := o.retry
                              have o6 := o.tickets
                              have o7 := o.nodes
                              have o8 := o.limlen
                              omega)⟩
                          | exact ur_ret1 G Tryz.func23 rfl rfl ⟨false, rfl, fun q => (by cases q), fun o => (by
                              exfalso
                              have o9 := o.limits x (List.mem_of_getElem? hx)
                              have o10 := o.root
                              have o11 := o.tree i p
                              first
                              | omega
                              | (have e : i = 0 := by omega
                                 subst e
                                 rw [hp] at o10
                                 injection o10 with o10
                                 omega)
                              | (have o12 := o11 (by omega) hp
                                 omega))⟩
                          | exact ur_ret1 G Tryz.func23 rfl rfl ⟨true, rfl, fun _ => (by
                              have hi : i = c.parents.length := by omega
                              exact ⟨by omega, by omega, by omega, by omega, by omega, by omega, by omega, by omega, hlim (by omega), hroot (by omega), fun j q hj hq => htree j q (by have := (List.getElem?_eq_some_iff.1 hq).1; omega) hj hq⟩), fun _ => rfl⟩
                        · -- no
                          try simp only [decide_eq_true_eq, decide_eq_false_iff_not, Bool.not_eq_true', Bool.not_eq_false', beq_iff_eq, bne_iff_ne, beq_eq_false_iff_ne, bne_eq_false_iff_eq, ne_eq, Decidable.not_not] at hc58
                          refine ur_opw rfl rfl rfl rfl rfl (opv_move rfl rfl ?_)
                          refine ur_opw rfl rfl rfl rfl rfl (opv_cmp rfl rfl rfl rfl ?_)
                          refine ur_opw rfl rfl rfl rfl rfl (opv_move rfl rfl ?_)
                          refine ur_split 95 rfl (fun hc59 => ?_) (fun hc59 => ?_)
                          · -- yes
                            try simp only [decide_eq_true_eq, decide_eq_false_iff_not, Bool.not_eq_true', Bool.not_eq_false', beq_iff_eq, bne_iff_ne, beq_eq_false_iff_ne, bne_eq_false_iff_eq, ne_eq, Decidable.not_not] at hc59
                            refine ur_opw rfl rfl rfl rfl rfl (opv_fieldAddr0 rfl rfl rfl ?_)
                            refine ur_opw rfl rfl rfl rfl rfl (opv_load1 (by first | exact .inl (Has.has H) | exact .inr (Has.has HR)) rfl rfl (show (cfv c A)[6]? = some (.slice (some ⟨pb, poff, none⟩) c.parents.length A.pc) from by simp [cfv, epa]) ?_)
                            refine ur_opw rfl rfl rfl rfl rfl (opv_move rfl rfl ?_)
                            refine ur_opw rfl rfl rfl rfl rfl (opv_indexAt (r := poff + i) rfl rfl rfl ⟨by omega, by omega⟩ (by simp) ?_)
                            refine ur_opw rfl rfl rfl rfl rfl (opv_load1 (.inr hpb) rfl rfl hpv ?_)
                            refine ur_opw rfl rfl rfl rfl rfl (opv_move rfl rfl ?_)
                            refine ur_opw rfl rfl rfl rfl rfl (opv_arith rfl rfl rfl rfl (by first | exact wi (by omega) | rfl) ?_)
                            refine ur_opw rfl rfl rfl rfl rfl (opv_call rfl rfl rfl (opv_to [] [] H (fun F1 h1 hF HR1 H1 => lw_in) ?_))
                            rintro v h1 h ⟨rfl⟩ J
                            have H := J (LN := []) trivial
                            refine ur_opw rfl rfl rfl rfl rfl (opv_not rfl rfl ?_)
                            refine ur_opw rfl rfl rfl rfl rfl (opv_pick rfl rfl rfl ?_)
                            refine ur_opw rfl rfl rfl rfl rfl (opv_pick rfl rfl rfl ?_)
                            refine ur_region_end ?_
                            refine ur_cond rfl (fun hc60 => ?_) (fun hc60 => ?_)
                            · -- yes
                              try simp only [decide_eq_true_eq, decide_eq_false_iff_not, Bool.not_eq_true', Bool.not_eq_false', beq_iff_eq, bne_iff_ne, beq_eq_false_iff_ne, bne_eq_false_iff_eq, ne_eq, Decidable.not_not] at hc60
                              repeat refine ur_seq ?_
                              refine ur_region rfl ?_
                              refine ur_opw rfl rfl rfl rfl rfl (opv_assign rfl rfl ?_)
                              refine ur_region_end ?_
                              first
                              | exact ur_ret1 G Tryz.func23 rfl rfl ⟨false, rfl, fun q => (by cases q), fun o => (by
                                  exfalso
                                  have o1 := o.threads
                                  have o2 := o.stripes
                                  have o3 := o.gate
                                  have o4 := o.lease
                                  have o5 := o.retry
                                  have o6 := o.tickets
                                  have o7 := o.nodes
                                  have o8 := o.limlen
                                  omega)⟩
                              | exact ur_ret1 G Tryz.func23 rfl rfl ⟨false, rfl, fun q => (by cases q), fun o => (by
                                  exfalso
                                  have o9 := o.limits x (List.mem_of_getElem? hx)
                                  have o10 := o.root
                                  have o11 := o.tree i p
                                  first
                                  | omega
                                  | (have e : i = 0 := by omega
                                     subst e
                                     rw [hp] at o10
                                     injection o10 with o10
                                     omega)
                                  | (have o12 := o11 (by omega) hp
                                     omega))⟩
                              | exact ur_ret1 G Tryz.func23 rfl rfl ⟨true, rfl, fun _ => (by
                                  have hi : i = c.parents.length := by omega
                                  exact ⟨by omega, by omega, by omega, by omega, by omega, by omega, by omega, by omega, hlim (by omega), hroot (by omega), fun j q hj hq => htree j q (by have := (List.getElem?_eq_some_iff.1 hq).1; omega) hj hq⟩), fun _ => rfl⟩
                            · -- no
                              try simp only [decide_eq_true_eq, decide_eq_false_iff_not, Bool.not_eq_true', Bool.not_eq_false', beq_iff_eq, bne_iff_ne, beq_eq_false_iff_ne, bne_eq_false_iff_eq, ne_eq, Decidable.not_not] at hc60
                              refine ur_skip ?_
                              refine ur_inBlock ?_
                              refine ur_region rfl ?_
                              refine ur_opw rfl rfl rfl rfl rfl (opv_move rfl rfl ?_)
                              refine ur_opw rfl rfl rfl rfl rfl (opv_arith rfl rfl rfl rfl (by first | exact wi (by omega) | rfl) ?_)
                              refine ur_opw rfl rfl rfl rfl rfl (opv_assign rfl rfl ?_)
                              refine ur_region_end ?_
                              refine ur_sub (l' := [(3, .int .i64 (i + 1 : Nat)), (1, .pointer (some ⟨b1, 0, none⟩))]) ⟨rfl, rfl, trivial⟩ ?_
                              refine ih (n - 1) _ _ (by omega) ⟨i + 1, rfl, by omega, ?_, ?_, ?_, H.keep [0]⟩
                              · intro j v hj hv
                                by_cases e : j = i
                                · subst e; rw [hx] at hv; cases hv; omega
                                · exact hl0 j v (by omega) hv
                              · intro _
                                by_cases e : i = 0
                                · subst e; rw [hp, show p = -1 from by omega]
                                · exact hr0 (by omega)
                              · intro j q hj hj0 hq
                                by_cases e : j = i
                                · subst e; rw [hp] at hq; cases hq; omega
                                · exact ht0 j q (by omega) hj0 hq
                          · -- no
                            try simp only [decide_eq_true_eq, decide_eq_false_iff_not, Bool.not_eq_true', Bool.not_eq_false', beq_iff_eq, bne_iff_ne, beq_eq_false_iff_ne, bne_eq_false_iff_eq, ne_eq, Decidable.not_not] at hc59
                            refine ur_pass rfl rfl rfl rfl ?_
                            refine ur_pass rfl rfl rfl rfl ?_
                            refine ur_pass rfl rfl rfl rfl ?_
                            refine ur_pass rfl rfl rfl rfl ?_
                            refine ur_pass rfl rfl rfl rfl ?_
                            refine ur_pass rfl rfl rfl rfl ?_
                            refine ur_pass rfl rfl rfl rfl ?_
                            refine ur_pass rfl rfl rfl rfl ?_
                            refine ur_pass rfl rfl rfl rfl ?_
                            refine ur_opw rfl rfl rfl rfl rfl (opv_pick rfl rfl rfl ?_)
                            refine ur_opw rfl rfl rfl rfl rfl (opv_pick rfl rfl rfl ?_)
                            refine ur_region_end ?_
                            refine ur_condF rfl ?_
                            refine ur_skip ?_
                            refine ur_inBlock ?_
                            refine ur_region rfl ?_
                            refine ur_opw rfl rfl rfl rfl rfl (opv_move rfl rfl ?_)
                            refine ur_opw rfl rfl rfl rfl rfl (opv_arith rfl rfl rfl rfl (by first | exact wi (by omega) | rfl) ?_)
                            refine ur_opw rfl rfl rfl rfl rfl (opv_assign rfl rfl ?_)
                            refine ur_region_end ?_
                            refine ur_sub (l' := [(3, .int .i64 (i + 1 : Nat)), (1, .pointer (some ⟨b1, 0, none⟩))]) ⟨rfl, rfl, trivial⟩ ?_
                            refine ih (n - 1) _ _ (by omega) ⟨i + 1, rfl, by omega, ?_, ?_, ?_, H.keep [0]⟩
                            · intro j v hj hv
                              by_cases e : j = i
                              · subst e; rw [hx] at hv; cases hv; omega
                              · exact hl0 j v (by omega) hv
                            · intro _
                              by_cases e : i = 0
                              · subst e; rw [hp, show p = -1 from by omega]
                              · exact hr0 (by omega)
                            · intro j q hj hj0 hq
                              by_cases e : j = i
                              · subst e; rw [hp] at hq; cases hq; omega
                              · exact ht0 j q (by omega) hj0 hq
                      · -- no
                        try simp only [decide_eq_true_eq, decide_eq_false_iff_not, Bool.not_eq_true', Bool.not_eq_false', beq_iff_eq, bne_iff_ne, beq_eq_false_iff_ne, bne_eq_false_iff_eq, ne_eq, Decidable.not_not] at hc57
                        refine ur_pass rfl rfl rfl rfl ?_
                        refine ur_pass rfl rfl rfl rfl ?_
                        refine ur_pass rfl rfl rfl rfl ?_
                        refine ur_pass rfl rfl rfl rfl ?_
                        refine ur_pass rfl rfl rfl rfl ?_
                        refine ur_pass rfl rfl rfl rfl ?_
                        refine ur_opw rfl rfl rfl rfl rfl (opv_pick rfl rfl rfl ?_)
                        refine ur_opw rfl rfl rfl rfl rfl (opv_pick rfl rfl rfl ?_)
                        refine ur_opw rfl rfl rfl rfl rfl (opv_move rfl rfl ?_)
                        refine ur_opw rfl rfl rfl rfl rfl (opv_move rfl rfl ?_)
                        refine ur_opw rfl rfl rfl rfl rfl (opv_cmp rfl rfl rfl rfl ?_)
                        refine ur_opw rfl rfl rfl rfl rfl (opv_move rfl rfl ?_)
                        refine ur_split 95 rfl (fun hc61 => ?_) (fun hc61 => ?_)
                        · -- yes
                          try simp only [decide_eq_true_eq, decide_eq_false_iff_not, Bool.not_eq_true', Bool.not_eq_false', beq_iff_eq, bne_iff_ne, beq_eq_false_iff_ne, bne_eq_false_iff_eq, ne_eq, Decidable.not_not] at hc61
                          refine ur_opw rfl rfl rfl rfl rfl (opv_fieldAddr0 rfl rfl rfl ?_)
                          refine ur_opw rfl rfl rfl rfl rfl (opv_load1 (by first | exact .inl (Has.has H) | exact .inr (Has.has HR)) rfl rfl (show (cfv c A)[6]? = some (.slice (some ⟨pb, poff, none⟩) c.parents.length A.pc) from by simp [cfv, epa]) ?_)
                          refine ur_opw rfl rfl rfl rfl rfl (opv_move rfl rfl ?_)
                          refine ur_opw rfl rfl rfl rfl rfl (opv_indexAt (r := poff + i) rfl rfl rfl ⟨by omega, by omega⟩ (by simp) ?_)
                          refine ur_opw rfl rfl rfl rfl rfl (opv_load1 (.inr hpb) rfl rfl hpv ?_)
                          refine ur_opw rfl rfl rfl rfl rfl (opv_move rfl rfl ?_)
                          refine ur_opw rfl rfl rfl rfl rfl (opv_arith rfl rfl rfl rfl (by first | exact wi (by omega) | rfl) ?_)
                          refine ur_opw rfl rfl rfl rfl rfl (opv_call rfl rfl rfl (opv_to [] [] H (fun F1 h1 hF HR1 H1 => lw_in) ?_))
                          rintro v h1 h ⟨rfl⟩ J
                          have H := J (LN := []) trivial
                          refine ur_opw rfl rfl rfl rfl rfl (opv_not rfl rfl ?_)
                          refine ur_opw rfl rfl rfl rfl rfl (opv_pick rfl rfl rfl ?_)
                          refine ur_opw rfl rfl rfl rfl rfl (opv_pick rfl rfl rfl ?_)
                          refine ur_region_end ?_
                          refine ur_cond rfl (fun hc62 => ?_) (fun hc62 => ?_)
                          · -- yes
                            try simp only [decide_eq_true_eq, decide_eq_false_iff_not, Bool.not_eq_true', Bool.not_eq_false', beq_iff_eq, bne_iff_ne, beq_eq_false_iff_ne, bne_eq_false_iff_eq, ne_eq, Decidable.not_not] at hc62
                            repeat refine ur_seq ?_
                            refine ur_region rfl ?_
                            refine ur_opw rfl rfl rfl rfl rfl (opv_assign rfl rfl ?_)
                            refine ur_region_end ?_
                            first
                            | exact ur_ret1 G Tryz.func23 rfl rfl ⟨false, rfl, fun q => (by cases q), fun o => (by
                                exfalso
                                have o1 := o.threads
                                have o2 := o.stripes
                                have o3 := o.gate
                                have o4 := o.lease
                                have o5 := o.retry
                                have o6 := o.tickets
                                have o7 := o.nodes
                                have o8 := o.limlen
                                omega)⟩
                            | exact ur_ret1 G Tryz.func23 rfl rfl ⟨false, rfl, fun q => (by cases q), fun o => (by
                                exfalso
                                have o9 := o.limits x (List.mem_of_getElem? hx)
                                have o10 := o.root
                                have o11 := o.tree i p
                                first
                                | omega
                                | (have e : i = 0 := by omega
                                   subst e
                                   rw [hp] at o10
                                   injection o10 with o10
                                   omega)
                                | (have o12 := o11 (by omega) hp
                                   omega))⟩
                            | exact ur_ret1 G Tryz.func23 rfl rfl ⟨true, rfl, fun _ => (by
                                have hi : i = c.parents.length := by omega
                                exact ⟨by omega, by omega, by omega, by omega, by omega, by omega, by omega, by omega, hlim (by omega), hroot (by omega), fun j q hj hq => htree j q (by have := (List.getElem?_eq_some_iff.1 hq).1; omega) hj hq⟩), fun _ => rfl⟩
                          · -- no
                            try simp only [decide_eq_true_eq, decide_eq_false_iff_not, Bool.not_eq_true', Bool.not_eq_false', beq_iff_eq, bne_iff_ne, beq_eq_false_iff_ne, bne_eq_false_iff_eq, ne_eq, Decidable.not_not] at hc62
                            refine ur_skip ?_
                            refine ur_inBlock ?_
                            refine ur_region rfl ?_
                            refine ur_opw rfl rfl rfl rfl rfl (opv_move rfl rfl ?_)
                            refine ur_opw rfl rfl rfl rfl rfl (opv_arith rfl rfl rfl rfl (by first | exact wi (by omega) | rfl) ?_)
                            refine ur_opw rfl rfl rfl rfl rfl (opv_assign rfl rfl ?_)
                            refine ur_region_end ?_
                            refine ur_sub (l' := [(3, .int .i64 (i + 1 : Nat)), (1, .pointer (some ⟨b1, 0, none⟩))]) ⟨rfl, rfl, trivial⟩ ?_
                            refine ih (n - 1) _ _ (by omega) ⟨i + 1, rfl, by omega, ?_, ?_, ?_, H.keep [0]⟩
                            · intro j v hj hv
                              by_cases e : j = i
                              · subst e; rw [hx] at hv; cases hv; omega
                              · exact hl0 j v (by omega) hv
                            · intro _
                              by_cases e : i = 0
                              · subst e; rw [hp, show p = -1 from by omega]
                              · exact hr0 (by omega)
                            · intro j q hj hj0 hq
                              by_cases e : j = i
                              · subst e; rw [hp] at hq; cases hq; omega
                              · exact ht0 j q (by omega) hj0 hq
                        · -- no
                          try simp only [decide_eq_true_eq, decide_eq_false_iff_not, Bool.not_eq_true', Bool.not_eq_false', beq_iff_eq, bne_iff_ne, beq_eq_false_iff_ne, bne_eq_false_iff_eq, ne_eq, Decidable.not_not] at hc61
                          refine ur_pass rfl rfl rfl rfl ?_
                          refine ur_pass rfl rfl rfl rfl ?_
                          refine ur_pass rfl rfl rfl rfl ?_
                          refine ur_pass rfl rfl rfl rfl ?_
                          refine ur_pass rfl rfl rfl rfl ?_
                          refine ur_pass rfl rfl rfl rfl ?_
                          refine ur_pass rfl rfl rfl rfl ?_
                          refine ur_pass rfl rfl rfl rfl ?_
                          refine ur_pass rfl rfl rfl rfl ?_
                          refine ur_opw rfl rfl rfl rfl rfl (opv_pick rfl rfl rfl ?_)
                          refine ur_opw rfl rfl rfl rfl rfl (opv_pick rfl rfl rfl ?_)
                          refine ur_region_end ?_
                          refine ur_condF rfl ?_
                          refine ur_skip ?_
                          refine ur_inBlock ?_
                          refine ur_region rfl ?_
                          refine ur_opw rfl rfl rfl rfl rfl (opv_move rfl rfl ?_)
                          refine ur_opw rfl rfl rfl rfl rfl (opv_arith rfl rfl rfl rfl (by first | exact wi (by omega) | rfl) ?_)
                          refine ur_opw rfl rfl rfl rfl rfl (opv_assign rfl rfl ?_)
                          refine ur_region_end ?_
                          refine ur_sub (l' := [(3, .int .i64 (i + 1 : Nat)), (1, .pointer (some ⟨b1, 0, none⟩))]) ⟨rfl, rfl, trivial⟩ ?_
                          refine ih (n - 1) _ _ (by omega) ⟨i + 1, rfl, by omega, ?_, ?_, ?_, H.keep [0]⟩
                          · intro j v hj hv
                            by_cases e : j = i
                            · subst e; rw [hx] at hv; cases hv; omega
                            · exact hl0 j v (by omega) hv
                          · intro _
                            by_cases e : i = 0
                            · subst e; rw [hp, show p = -1 from by omega]
                            · exact hr0 (by omega)
                          · intro j q hj hj0 hq
                            by_cases e : j = i
                            · subst e; rw [hp] at hq; cases hq; omega
                            · exact ht0 j q (by omega) hj0 hq
                  · -- no
                    try simp only [decide_eq_true_eq, decide_eq_false_iff_not, Bool.not_eq_true', Bool.not_eq_false', beq_iff_eq, bne_iff_ne, beq_eq_false_iff_ne, bne_eq_false_iff_eq, ne_eq, Decidable.not_not] at hc55
                    have hlim : i = c.parents.length → ∀ v ∈ c.limits, 0 ≤ v ∧ v ≤ 1099511627776 := fun e v hv => by
                      obtain ⟨j, hj⟩ := List.mem_iff_getElem?.1 hv
                      exact hl0 j v (by have := (List.getElem?_eq_some_iff.1 hj).1; omega) hj
                    have hroot : 0 < i → c.parents[0]? = some (-1) := hr0
                    have htree := ht0
                    refine ur_exit rfl ?_
                    repeat refine ur_seq ?_
                    refine ur_region rfl ?_
                    refine ur_opw rfl rfl rfl rfl rfl (opv_assign rfl rfl ?_)
                    refine ur_region_end ?_
                    first
                    | exact ur_ret1 G Tryz.func23 rfl rfl ⟨false, rfl, fun q => (by cases q), fun o => (by
                        exfalso
                        have o1 := o.threads
                        have o2 := o.stripes
                        have o3 := o.gate
                        have o4 := o.lease
                        have o5 := o.retry
                        have o6 := o.tickets
                        have o7 := o.nodes
                        have o8 := o.limlen
                        omega)⟩
                    | exact ur_ret1 G Tryz.func23 rfl rfl ⟨false, rfl, fun q => (by cases q), fun o => (by
                        exfalso
                        have o9 := o.limits x (List.mem_of_getElem? hx)
                        have o10 := o.root
                        have o11 := o.tree i p
                        first
                        | omega
                        | (have e : i = 0 := by omega
                           subst e
                           rw [hp] at o10
                           injection o10 with o10
                           omega)
                        | (have o12 := o11 (by omega) hp
                           omega))⟩
                    | exact ur_ret1 G Tryz.func23 rfl rfl ⟨true, rfl, fun _ => (by
                        have hi : i = c.parents.length := by omega
                        exact ⟨by omega, by omega, by omega, by omega, by omega, by omega, by omega, by omega, hlim (by omega), hroot (by omega), fun j q hj hq => htree j q (by have := (List.getElem?_eq_some_iff.1 hq).1; omega) hj hq⟩), fun _ => rfl⟩
end Go.Proofs
