/- Package solo: over, All. -/
import Derived.Test.YtnfcoikbkmhggaaGreatRunL
set_option linter.all false
set_option linter.unusedVariables false
set_option linter.unusedSimpArgs false
namespace Go.BL
/-- An order, over and over. -/
def ovPass {σ : Type} (step : σ → Int → Option σ) (st : σ) : List Int → σ × Bool
  | [] => (st, false)
  | t :: ts => match step st t with
    | none => (st, true)
    | some st' => ovPass step st' ts
theorem ovPass_cons {σ : Type} (step : σ → Int → Option σ) (st : σ) (t : Int) (ts : List Int) : ovPass step st (t :: ts) = match step st t with
    | none => (st, true)
    | some st' => ovPass step st' ts := rfl
def ovN {σ : Type} (step : σ → Int → Option σ) (on : σ → Bool × σ) : Nat → σ → List Int → Option (σ × Bool)
  | 0, _, _ => none
  | k + 1, st, o =>
    if (ovPass step st o).2 then some ((ovPass step st o).1, true)
    else if (on (ovPass step st o).1).1 then ovN step on k (on (ovPass step st o).1).2 o
    else some ((on (ovPass step st o).1).2, false)
/-- What a yield leaves that goes on, or stops. -/
def yO {σ : Type} (A B : σ → HProp) (st : σ) : Option σ → Bool → HProp
  | some st', true => A st'
  | none, false => B st
  | _, _ => fun _ => False
def allStep (x : Sd × Nat × Nat) (t : Int) : Option (Sd × Nat × Nat) := if x.1.idle then none else some ((x.1.pick t).1, if (x.1.pick t).2 then x.2.1 + 1 else x.2.1, x.2.2)
def allOn (x : Sd × Nat × Nat) : Bool × (Sd × Nat × Nat) := (decide (x.2.1 > x.2.2), (x.1, x.2.1, x.2.1))
theorem all_pass : ∀ (o : List Int) (s : Sd) (n w : Nat), ovPass allStep (s, n, w) o = (((s.passL n o).1, (s.passL n o).2.1, w), (s.passL n o).2.2)
  | [], _, _, _ => rfl
  | t :: ts, s, n, w => by
    unfold ovPass Sd.passL allStep
    by_cases hi : s.idle = true
    · simp [hi]
    · simp only [hi, if_false, Bool.false_eq_true]
      exact all_pass ts _ _ w
theorem all_N : ∀ (k : Nat) (s : Sd) (o : List Int) (n : Nat) (r : Sd × Nat), s.allN k o n = some r → ∃ w b, ovN allStep allOn k (s, n, n) o = some ((r.1, r.2, w), b)
  | 0, _, _, _, _, h => by cases h
  | k + 1, s, o, n, r, h => by
    unfold Sd.allN at h
    unfold ovN
    rw [all_pass]
    by_cases h1 : (s.passL n o).2.2 = true
    · rw [if_pos h1] at h ⊢; cases h; exact ⟨_, _, rfl⟩
    · rw [if_neg h1] at h ⊢
      by_cases h2 : (s.passL n o).2.1 > n
      · rw [if_pos h2] at h
        rw [if_pos (by simpa [allOn] using h2)]
        exact all_N k _ _ _ _ h
      · rw [if_neg h2] at h
        rw [if_neg (by simpa [allOn] using h2)]
        cases h; exact ⟨_, _, rfl⟩
end Go.BL
namespace Go.Proofs
open Go.BL
variable {F h : Hp} {c : Cf} {A : CA} {L : List HProp}

theorem so_over {oa : Option Addr} {o : List Int} {oc : Nat} {f : Value} (hf1 : CellsL f [f]) : CallS Tryz.prog F 73 [.slice oa o.length oc, f].toArray h fun v h' => ∃ ob fb, v = .func (.func 108) #[] [Value.pointer (some ⟨ob, 0, none⟩), Value.pointer (some ⟨fb, 0, none⟩)].toArray ∧ Own [pt ob (.cells [Value.slice oa o.length oc].toArray 22 (0, 0)), pt fb (.cells [f].toArray 25 (0, 0))] h' := by
  refine callS_intro Tryz.func73 rfl rfl rfl fun C G => ?_
  have H : Own [] h := trivial
  repeat refine ur_seq ?_
  refine ur_region rfl ?_
  refine ur_opw rfl rfl rfl rfl rfl (opv_box H rfl rfl fun b1 h hb1 H => ?_)
  refine ur_opw rfl rfl rfl rfl rfl (opv_box H rfl rfl fun b2 h hb2 H => ?_)
  refine ur_opw rfl rfl rfl rfl rfl (opv_assign rfl rfl ?_)
  refine ur_region_end ?_
  repeat refine ur_seq ?_
  refine ur_region rfl ?_
  refine ur_opw rfl rfl rfl rfl rfl (opv_makeFunc rfl rfl rfl ?_)
  refine ur_opw rfl rfl rfl rfl rfl (opv_assign rfl rfl ?_)
  refine ur_region_end ?_
  exact ur_ret1 G Tryz.func73 rfl rfl ⟨b1, b2, rfl, H.bring [1]⟩

theorem so_over1 {σ : Type} {step : σ → Int → Option σ} {on : σ → Bool × σ} {P1 P2 : σ → HProp} {oa : Option Addr} {o : List Int} {oc k ob fb : Nat} {y : Value} {g : FuncId} {gs : List Value} {st0 st2 : σ} {b2 : Bool} (RO : RdI F oa o) (hl : o.length < 2 ^ 30) [hb : HasBody Tryz.prog g] (hov : ovN step on k st0 o = some (st2, b2)) (hy : ∀ st x, Ys Tryz.prog F y (.int .i64 x) (P1 st) (yO P1 P2 st (step st x))) (hon : ∀ F' h' st, Hp.le F F' → Own [P1 st] h' → CallS Tryz.prog F' g gs.toArray h' fun v h2 => v = .bool (on st).1 ∧ Own [P1 (on st).2] h2) (H : Own [P1 st0, pt ob (.cells [Value.slice oa o.length oc].toArray 22 (0, 0)), pt fb (.cells [Value.func (.func g) #[] gs.toArray].toArray 25 (0, 0))] h) : CallS Tryz.prog F 108 [y, .pointer (some ⟨ob, 0, none⟩), .pointer (some ⟨fb, 0, none⟩)].toArray h fun v h' => v = .tuple #[] ∧ Own [if b2 then P2 st2 else P1 st2, pt ob (.cells [Value.slice oa o.length oc].toArray 22 (0, 0)), pt fb (.cells [Value.func (.func g) #[] gs.toArray].toArray 25 (0, 0))] h' := by
  refine callS_intro Tryz.func108 rfl rfl rfl fun C G => ?_
  refine ur_block ?_
  refine ur_sub (l' := [(0, y), (1, .pointer (some ⟨ob, 0, none⟩)), (2, .pointer (some ⟨fb, 0, none⟩))]) ⟨rfl, rfl, rfl, trivial⟩ ?_
  refine ur_loop_inv (n := k) (fun n l h => ∃ (st : σ), l = [(0, y), (1, .pointer (some ⟨ob, 0, none⟩)), (2, .pointer (some ⟨fb, 0, none⟩))] ∧ ovN step on n st o = some (st2, b2) ∧ Own [P1 st, pt ob (.cells [Value.slice oa o.length oc].toArray 22 (0, 0)), pt fb (.cells [Value.func (.func g) #[] gs.toArray].toArray 25 (0, 0))] h) ⟨st0, rfl, hov, H⟩ ?_
  rintro n ih l h ⟨st, rfl, hov, H⟩
  obtain ⟨k, rfl⟩ : ∃ k, n = k + 1 := by
    cases n with
    | zero => cases hov
    | succ k => exact ⟨k, rfl⟩
  refine ur_block ?_
  repeat refine ur_seq ?_
  refine ur_region rfl ?_
  refine ur_opw rfl rfl rfl rfl rfl (opv_load1 (by first | exact .inl (Has.has H) | exact .inr (Has.has HR)) rfl rfl rfl ?_)
  refine ur_opw rfl rfl rfl rfl rfl (opv_len rfl rfl ?_)
  refine ur_opw rfl rfl rfl rfl rfl (opv_move rfl rfl ?_)
  refine ur_region_end ?_
  repeat refine ur_seq ?_
  refine ur_block ?_
  refine ur_sub (l' := [(8, .int .i64 (0 : Nat)), (7, .int .i64 o.length), (6, .slice oa o.length oc), (0, y), (1, .pointer (some ⟨ob, 0, none⟩)), (2, .pointer (some ⟨fb, 0, none⟩))]) ⟨rfl, rfl, rfl, rfl, rfl, rfl, trivial⟩ ?_
  refine ur_loop_inv (n := o.length) (fun n2 l h => ∃ (i : Nat) (sti : σ), l = [(8, .int .i64 (i : Nat)), (7, .int .i64 o.length), (6, .slice oa o.length oc), (0, y), (1, .pointer (some ⟨ob, 0, none⟩)), (2, .pointer (some ⟨fb, 0, none⟩))] ∧ n2 + i = o.length ∧ ovPass step st o = ovPass step sti (o.drop i) ∧ Own [P1 sti, pt ob (.cells [Value.slice oa o.length oc].toArray 22 (0, 0)), pt fb (.cells [Value.func (.func g) #[] gs.toArray].toArray 25 (0, 0))] h) ⟨0, st, rfl, by omega, rfl, H⟩ ?_
  rintro n2 ih2 l h ⟨i, sti, rfl, hn, hps, H⟩
  repeat refine ur_seq ?_
  refine ur_region rfl ?_
  refine ur_opw rfl rfl rfl rfl rfl (opv_cmp rfl rfl rfl rfl ?_)
  refine ur_region_end ?_
  repeat refine ur_seq ?_
  refine ur_cond rfl (fun hc1 => ?_) (fun hc1 => ?_)
  · -- yes
    try simp only [decide_eq_true_eq, decide_eq_false_iff_not, Bool.not_eq_true', Bool.not_eq_false', beq_iff_eq, bne_iff_ne, beq_eq_false_iff_ne, bne_eq_false_iff_eq, ne_eq, Decidable.not_not] at hc1
    have hi : i < o.length := by omega
    obtain ⟨p, hp⟩ : ∃ p, o[i]? = some p := ⟨_, List.getElem?_eq_getElem hi⟩
    have hd : o.drop i = p :: o.drop (i + 1) := by
      rw [List.drop_eq_getElem_cons hi]
      have := (List.getElem?_eq_some_iff.1 hp).2
      rw [this]
    obtain ⟨rb, roff, rxs, rT, rfr, rfl, hrb, hrv⟩ := RO.at hp
    rw [hd, ovPass_cons] at hps
    refine ur_skip ?_
    repeat refine ur_seq ?_
    refine ur_block ?_
    repeat refine ur_seq ?_
    refine ur_region rfl ?_
    refine ur_opw rfl rfl rfl rfl rfl (opv_indexAt (r := roff + i) rfl rfl rfl ⟨by omega, by omega⟩ (by simp) ?_)
    refine ur_opw rfl rfl rfl rfl rfl (opv_load1 (.inr hrb) rfl rfl hrv ?_)
    refine ur_opw rfl rfl rfl rfl rfl (opv_assign rfl rfl ?_)
    refine ur_region_end ?_
    repeat refine ur_seq ?_
    refine ur_region rfl ?_
    refine ur_opw rfl rfl rfl rfl rfl (opv_move rfl rfl ?_)
    refine ur_opw rfl rfl rfl rfl rfl (opv_move rfl rfl ?_)
    refine ur_opw rfl rfl rfl rfl rfl (opv_yield (hy sti p) H [0] rfl rfl rfl fun b h H => ?_)
    refine ur_opw rfl rfl rfl rfl rfl (opv_not rfl rfl ?_)
    refine ur_region_end ?_
    refine ur_cond rfl (fun hc2 => ?_) (fun hc2 => ?_)
    · -- yes
      try simp only [decide_eq_true_eq, decide_eq_false_iff_not, Bool.not_eq_true', Bool.not_eq_false', beq_iff_eq, bne_iff_ne, beq_eq_false_iff_ne, bne_eq_false_iff_eq, ne_eq, Decidable.not_not] at hc2
      have hb : b = false := by simpa using hc2
      subst hb
      have hst : step sti p = none := by
        cases e : step sti p with
        | none => rfl
        | some st' => rw [e] at H; exact H.no.elim
      rw [hst] at hps H
      have hov2 : st2 = sti ∧ b2 = true := by
        unfold ovN at hov
        rw [hps] at hov
        simpa [eq_comm] using hov
      rw [hov2.1, hov2.2] at G
      exact ur_ret0 G Tryz.func108 rfl ⟨rfl, H⟩
    · -- no
      try simp only [decide_eq_true_eq, decide_eq_false_iff_not, Bool.not_eq_true', Bool.not_eq_false', beq_iff_eq, bne_iff_ne, beq_eq_false_iff_ne, bne_eq_false_iff_eq, ne_eq, Decidable.not_not] at hc2
      have hb : b = true := by simpa using hc2
      subst hb
      obtain ⟨st', hst⟩ : ∃ st', step sti p = some st' := by
        cases e : step sti p with
        | none => rw [e] at H; exact H.no.elim
        | some st' => exact ⟨st', rfl⟩
      rw [hst] at hps H
      refine ur_skip ?_
      refine ur_inBlock ?_
      refine ur_region rfl ?_
      refine ur_opw rfl rfl rfl rfl rfl (opv_arith rfl rfl rfl rfl (by first | exact wi (by omega) | rfl) ?_)
      refine ur_opw rfl rfl rfl rfl rfl (opv_move rfl rfl ?_)
      refine ur_region_end ?_
      refine ur_sub (l' := [(8, .int .i64 (i + 1 : Nat)), (7, .int .i64 o.length), (6, .slice _ o.length oc), (0, y), (1, .pointer (some ⟨ob, 0, none⟩)), (2, .pointer (some ⟨fb, 0, none⟩))]) ⟨rfl, rfl, rfl, rfl, rfl, rfl, trivial⟩ ?_
      refine ih2 (n2 - 1) _ _ (by omega) ⟨i + 1, st', rfl, by omega, hps, H⟩
  · -- no
    try simp only [decide_eq_true_eq, decide_eq_false_iff_not, Bool.not_eq_true', Bool.not_eq_false', beq_iff_eq, bne_iff_ne, beq_eq_false_iff_ne, bne_eq_false_iff_eq, ne_eq, Decidable.not_not] at hc1
    have hi : i = o.length := by omega
    rw [hi, List.drop_length] at hps
    have hov3 := hov
    unfold ovN at hov3
    rw [hps] at hov3
    simp only [ovPass, Bool.false_eq_true, if_false] at hov3
    refine ur_exit rfl ?_
    repeat refine ur_seq ?_
    refine ur_region rfl ?_
    refine ur_opw rfl rfl rfl rfl rfl (opv_load1 (by first | exact .inl (Has.has H) | exact .inr (Has.has HR)) rfl rfl rfl ?_)
    refine ur_opw rfl rfl rfl rfl rfl (opv_call rfl rfl rfl (opv_to [] [0] H (fun F1 h1 hF HR1 H1 => hon F1 h1 sti hF H1) ?_))
    rintro v h1 h ⟨rfl, H1⟩ J
    have H := J H1
    refine ur_opw rfl rfl rfl rfl rfl (opv_not rfl rfl ?_)
    refine ur_region_end ?_
    refine ur_cond rfl (fun hc3 => ?_) (fun hc3 => ?_)
    · -- yes
      try simp only [decide_eq_true_eq, decide_eq_false_iff_not, Bool.not_eq_true', Bool.not_eq_false', beq_iff_eq, bne_iff_ne, beq_eq_false_iff_ne, bne_eq_false_iff_eq, ne_eq, Decidable.not_not] at hc3
      have hb : (on sti).1 = false := by simpa using hc3
      simp only [hb, Bool.false_eq_true, if_false, Option.some.injEq, Prod.mk.injEq] at hov3
      rw [← hov3.1, ← hov3.2] at G
      exact ur_ret0 G Tryz.func108 rfl ⟨rfl, H⟩
    · -- no
      try simp only [decide_eq_true_eq, decide_eq_false_iff_not, Bool.not_eq_true', Bool.not_eq_false', beq_iff_eq, bne_iff_ne, beq_eq_false_iff_ne, bne_eq_false_iff_eq, ne_eq, Decidable.not_not] at hc3
      have hb : (on sti).1 = true := by simpa using hc3
      simp only [hb, if_true] at hov3
      refine ur_skip ?_
      refine ur_inBlock ?_
      refine ur_sub (l' := [(0, y), (1, .pointer (some ⟨ob, 0, none⟩)), (2, .pointer (some ⟨fb, 0, none⟩))]) ⟨rfl, rfl, rfl, trivial⟩ ?_
      refine ih k _ _ (by omega) ⟨(on sti).2, rfl, hov3, H⟩

theorem so_moved {nb wb n w : Nat} (H : Own [pt nb (.cells [Value.int .i64 n].toArray 3 (0, 0)), pt wb (.cells [Value.int .i64 w].toArray 3 (0, 0))] h) : CallS Tryz.prog F 72 [.pointer (some ⟨nb, 0, none⟩), .pointer (some ⟨wb, 0, none⟩)].toArray h fun v h' => v = .bool (decide (n > w)) ∧ Own [pt nb (.cells [Value.int .i64 n].toArray 3 (0, 0)), pt wb (.cells [Value.int .i64 n].toArray 3 (0, 0))] h' := by
  refine callS_intro Tryz.func72 rfl rfl rfl fun C G => ?_
  repeat refine ur_seq ?_
  refine ur_region rfl ?_
  refine ur_opw rfl rfl rfl rfl rfl (opv_assign rfl rfl ?_)
  refine ur_region_end ?_
  repeat refine ur_seq ?_
  refine ur_region rfl ?_
  refine ur_opw rfl rfl rfl rfl rfl (opv_load1 (by first | exact .inl (Has.has H) | exact .inr (Has.has HR)) rfl rfl rfl ?_)
  refine ur_opw rfl rfl rfl rfl rfl (opv_load1 (by first | exact .inl (Has.has H) | exact .inr (Has.has HR)) rfl rfl rfl ?_)
  refine ur_opw rfl rfl rfl rfl rfl (opv_cmp rfl rfl rfl rfl ?_)
  refine ur_opw rfl rfl rfl rfl rfl (opv_assign rfl rfl ?_)
  refine ur_region_end ?_
  repeat refine ur_seq ?_
  refine ur_region rfl ?_
  refine ur_opw rfl rfl rfl rfl rfl (opv_load1 (by first | exact .inl (Has.has H) | exact .inr (Has.has HR)) rfl rfl rfl ?_)
  refine ur_opw0 rfl rfl rfl rfl (opv_store H rfl rfl rfl rfl rfl rfl rfl fun h H => ?_)
  refine ur_region_end ?_
  repeat refine ur_seq ?_
  refine ur_region rfl ?_
  refine ur_opw rfl rfl rfl rfl rfl (opv_move rfl rfl ?_)
  refine ur_opw rfl rfl rfl rfl rfl (opv_assign rfl rfl ?_)
  refine ur_region_end ?_
  exact ur_ret1 G Tryz.func72 rfl rfl ⟨by simp, H⟩

theorem so_all {I : Sd → Prop} {φ : Sd → Nat} (V : Sd.Inv I φ c) {sb xb : Nat} {oa : Option Addr} {o : List Int} {oc k : Nat} {bs : List Nat} {s : Sd} {r : Sd × Nat} (R : RdC F c A) (RO : RdI F oa o) (hl : o.length < 2 ^ 30) (hI : I s) (hr : s.allN k o 0 = some r) (H : Own [SdR sb A bs s] h) : CallS Tryz.prog F 34 [.pointer (some ⟨xb, 0, none⟩), .pointer (some ⟨sb, 0, none⟩), .slice oa o.length oc].toArray h fun v h' => v = .tuple [Value.int .i64 r.2, Value.bool r.1.idle].toArray ∧ Own [SdR sb A bs r.1] h' := by
  refine callS_intro Tryz.func34 rfl rfl rfl fun C G => ?_
  have H0 := H
  repeat refine ur_seq ?_
  refine ur_region rfl ?_
  refine ur_opw rfl rfl rfl rfl rfl (opv_box H rfl rfl fun b1 h hb1 H => ?_)
  refine ur_opw rfl rfl rfl rfl rfl (opv_assign rfl rfl ?_)
  refine ur_opw rfl rfl rfl rfl rfl (opv_assign rfl rfl ?_)
  refine ur_region_end ?_
  repeat refine ur_seq ?_
  refine ur_region rfl ?_
  refine ur_opw rfl rfl rfl rfl rfl (opv_alloc H rfl fun b2 h hb2 H => ?_)
  refine ur_opw rfl rfl rfl rfl rfl (opv_alloc H rfl fun b3 h hb3 H => ?_)
  refine ur_opw0 rfl rfl rfl rfl (opv_store H rfl rfl rfl rfl rfl rfl rfl fun h H => ?_)
  refine ur_opw0 rfl rfl rfl rfl (opv_store H rfl rfl rfl rfl rfl rfl rfl fun h H => ?_)
  refine ur_region_end ?_
  repeat refine ur_seq ?_
  refine ur_region rfl ?_
  refine ur_opw rfl rfl rfl rfl rfl (opv_makeFunc rfl rfl rfl ?_)
  refine ur_opw rfl rfl rfl rfl rfl (opv_assign rfl rfl ?_)
  refine ur_region_end ?_
  repeat refine ur_seq ?_
  refine ur_region rfl ?_
  refine ur_opw rfl rfl rfl rfl rfl (opv_load1 (by first | exact .inl (Has.has H) | exact .inr (Has.has HR)) rfl rfl rfl ?_)
  refine ur_opw rfl rfl rfl rfl rfl (opv_makeFunc rfl rfl rfl ?_)
  refine ur_opw rfl rfl rfl rfl rfl (opv_alloc H rfl fun b4 h hb4 H => ?_)
  refine ur_opw0 rfl rfl rfl rfl (opv_store H rfl rfl rfl rfl rfl rfl rfl fun h H => ?_)
  refine ur_region_end ?_
  repeat refine ur_seq ?_
  refine ur_region rfl ?_
  refine ur_opw rfl rfl rfl rfl rfl (opv_move rfl rfl ?_)
  refine ur_opw rfl rfl rfl rfl rfl (opv_move rfl rfl ?_)
  refine ur_opw rfl rfl rfl rfl rfl (opv_call rfl rfl rfl (opv_to [] [] H (fun F1 h1 hF HR1 H1 => so_over (f := .func (.func 72) #[] [Value.pointer (some ⟨b2, 0, none⟩), Value.pointer (some ⟨b3, 0, none⟩)].toArray) ⟨rfl⟩) ?_))
  rintro v h1 h ⟨ob, fb, rfl, H1⟩ J
  have H := J H1
  refine ur_region_end ?_
  repeat refine ur_seq ?_
  refine ur_block ?_
  obtain ⟨w2, b2', hov⟩ := all_N k s o 0 r hr
  refine ur_rangeFunc H G.ro rfl fun lb db tmps h asg bd fn hasg hbd hfn hlb hdb he H => ?_
  have H := Own.fold (A := (fun (x : Sd × Nat × Nat) (h : Hp) => ∃ (_ : I x.1 ∧ x.2.1 + φ x.1 < 2 ^ 29), Own [pt lb (loopO .ready none fn tmps #[19] asg bd db), pt b1 (.cells [Value.pointer (some ⟨sb, 0, none⟩)].toArray 34 (0, 0)), pt b4 (.cells [Value.func (.func 32) [Value.pointer (some ⟨sb, 0, none⟩)].toArray #[]].toArray 40 (0, 0)), pt b2 (.cells [Value.int .i64 x.2.1].toArray 3 (0, 0)), pt b3 (.cells [Value.int .i64 x.2.2].toArray 3 (0, 0)), SdR sb A bs x.1] h) (s, 0, 0)) [0, 6, 3, 4, 3, 3] H fun h H => ⟨⟨hI, by have := V.bnd _ hI; simpa using this⟩, H⟩
  refine opv_to [] [0, 1, 1] H (fun F1 h1 hF HR1 H1 => so_over1 (P1 := (fun (x : Sd × Nat × Nat) (h : Hp) => ∃ (_ : I x.1 ∧ x.2.1 + φ x.1 < 2 ^ 29), Own [pt lb (loopO .ready none fn tmps #[19] asg bd db), pt b1 (.cells [Value.pointer (some ⟨sb, 0, none⟩)].toArray 34 (0, 0)), pt b4 (.cells [Value.func (.func 32) [Value.pointer (some ⟨sb, 0, none⟩)].toArray #[]].toArray 40 (0, 0)), pt b2 (.cells [Value.int .i64 x.2.1].toArray 3 (0, 0)), pt b3 (.cells [Value.int .i64 x.2.2].toArray 3 (0, 0)), SdR sb A bs x.1] h)) (P2 := (fun (x : Sd × Nat × Nat) (h : Hp) => ∃ (_ : I x.1 ∧ x.2.1 + φ x.1 < 2 ^ 29), Own [pt lb (loopO .done (some (.exit 0)) fn tmps #[19] asg bd db), pt b1 (.cells [Value.pointer (some ⟨sb, 0, none⟩)].toArray 34 (0, 0)), pt b4 (.cells [Value.func (.func 32) [Value.pointer (some ⟨sb, 0, none⟩)].toArray #[]].toArray 40 (0, 0)), pt b2 (.cells [Value.int .i64 x.2.1].toArray 3 (0, 0)), pt b3 (.cells [Value.int .i64 x.2.2].toArray 3 (0, 0)), SdR sb A bs x.1] h)) (RO.mono hF) hl hov ?_ ?_ H1) ?_
  · intro x t L h H
    have hFo := hF
    obtain ⟨hx, H⟩ := Own.ex1 H
    simp only [List.cons_append, List.nil_append] at H
    obtain ⟨s1, n1, w1⟩ := x
    dsimp only at hx H
    refine yield_round H (roundS_intro (he.putb (by rfl) _) fun C G hfn2 => ?_)
    subst hasg hbd
    have hc := V.can _ hx.1
    have hcf := V.cf _ hx.1
    refine ur_region rfl ?_
    refine ur_opw rfl rfl rfl rfl rfl (opv_assign rfl rfl ?_)
    refine ur_region_end ?_
    refine ur_beginRound G H fun h H => ?_
    refine ur_block ?_
    repeat refine ur_seq ?_
    refine ur_region rfl ?_
    refine ur_opw rfl rfl rfl rfl rfl (opv_load1 (by first | exact .inl (Has.has H) | exact .inr (Has.has HR)) rfl rfl rfl ?_)
    refine ur_opw rfl rfl rfl rfl rfl (opv_call rfl rfl rfl (opv_to [] [5] H (fun F1 h1 hF HR1 H1 => sd_idle (by have := hc.ths; omega) H1) ?_))
    rintro v h1 h ⟨rfl, H1⟩ J
    have H := J H1
    refine ur_region_end ?_
    repeat refine ur_seq ?_
    refine ur_cond rfl (fun hc25 => ?_) (fun hc25 => ?_)
    · -- yes
      try simp only [decide_eq_true_eq, decide_eq_false_iff_not, Bool.not_eq_true', Bool.not_eq_false', beq_iff_eq, bne_iff_ne, beq_eq_false_iff_ne, bne_eq_false_iff_eq, ne_eq, Decidable.not_not] at hc25
      have hst : allStep (s1, n1, w1) t = none := by simp [allStep, hc25]
      rw [hst] at G
      exact ur_roundExit rfl G H fun h H => ⟨false, rfl, Own.fold [1, 1, 1, 1, 1, 0] H fun h H => ⟨hx, H⟩⟩
    · -- no
      try simp only [decide_eq_true_eq, decide_eq_false_iff_not, Bool.not_eq_true', Bool.not_eq_false', beq_iff_eq, bne_iff_ne, beq_eq_false_iff_ne, bne_eq_false_iff_eq, ne_eq, Decidable.not_not] at hc25
      have hst : allStep (s1, n1, w1) t = some ((s1.pick t).1, if (s1.pick t).2 then n1 + 1 else n1, w1) := by simp [allStep, hc25]
      rw [hst] at G
      refine ur_skip ?_
      repeat refine ur_seq ?_
      refine ur_region rfl ?_
      refine ur_opw rfl rfl rfl rfl rfl (opv_load1 (by first | exact .inl (Has.has H) | exact .inr (Has.has HR)) rfl rfl rfl ?_)
      refine ur_opw rfl rfl rfl rfl rfl (opv_move rfl rfl ?_)
      refine ur_opw rfl rfl rfl rfl rfl (opv_call rfl rfl rfl (opv_to [] [0] H (fun F1 h1 hF HR1 H1 => sd_pick (hcf.symm ▸ R.mono (Hp.le_trans hFo hF)) hc H1) ?_))
      rintro v h1 h ⟨rfl, H1⟩ J
      have H := J H1
      refine ur_region_end ?_
      refine ur_cond rfl (fun hc26 => ?_) (fun hc26 => ?_)
      · -- yes
        try simp only [decide_eq_true_eq, decide_eq_false_iff_not, Bool.not_eq_true', Bool.not_eq_false', beq_iff_eq, bne_iff_ne, beq_eq_false_iff_ne, bne_eq_false_iff_eq, ne_eq, Decidable.not_not] at hc26
        have hd := V.dec _ t hx.1 hc26
        have hx1 := hx.2
        refine ur_region rfl ?_
        refine ur_opw rfl rfl rfl rfl rfl (opv_load1 (by first | exact .inl (Has.has H) | exact .inr (Has.has HR)) rfl rfl rfl ?_)
        refine ur_opw rfl rfl rfl rfl rfl (opv_arith rfl rfl rfl rfl (by first | exact wi (by omega) | rfl) ?_)
        refine ur_opw0 rfl rfl rfl rfl (opv_store H rfl rfl rfl rfl rfl rfl rfl fun h H => ?_)
        refine ur_region_end ?_
        refine ur_inBlock ?_
        exact ur_roundEnd G H fun h H => ⟨true, rfl, Own.fold [1, 1, 1, 1, 1, 0] H fun h H => ⟨⟨V.pick _ _ hx.1, by simp only [hc26, if_true]; omega⟩, by simpa [hc26] using H⟩⟩
      · -- no
        try simp only [decide_eq_true_eq, decide_eq_false_iff_not, Bool.not_eq_true', Bool.not_eq_false', beq_iff_eq, bne_iff_ne, beq_eq_false_iff_ne, bne_eq_false_iff_eq, ne_eq, Decidable.not_not] at hc26
        have hpf := Sd.pick_false _ _ (by simpa using hc26)
        refine ur_skip ?_
        refine ur_inBlock ?_
        exact ur_roundEnd G H fun h H => ⟨true, rfl, Own.fold [1, 1, 1, 1, 1, 0] H fun h H => ⟨⟨V.pick _ _ hx.1, by simp only [hpf]; simpa [hc26] using hx.2⟩, by simpa [hc26] using H⟩⟩
  · intro F2 h2 x hF2 H2
    obtain ⟨hx, H2⟩ := Own.ex1 (L := []) H2
    simp only [List.cons_append, List.nil_append] at H2
    obtain ⟨s1, n1, w1⟩ := x
    refine opv_to [] [3, 3] H2 (fun F3 h3 hF3 HR3 H3 => so_moved H3) ?_
    rintro v h1 h ⟨rfl, H1⟩ J
    have H := J H1
    exact ⟨rfl, (Own.fold [2, 2, 2, 0, 0, 0] H fun h H => ⟨hx, H⟩).keep [0]⟩
  rintro v h1 h ⟨rfl, H1⟩ J
  have H := J H1
  cases b2' with
  | true =>
    obtain ⟨hx, H⟩ := Own.ex1 H
    simp only [List.cons_append, List.nil_append] at H
    have hc := V.can _ hx.1
    dsimp only at hx H hc
    refine ⟨some (.exit 0), _, .done H, fun h H => ?_⟩
    refine ur_exit rfl ?_
    repeat refine ur_seq ?_
    refine ur_draw Tryz.mixed (by kernel_rfl) ?_
    refine ud_ro [0, 1] [0, 1, 2] [0, 1] (by kernel_rfl) (by kernel_rfl) H fun F1 h hF1 HF H => ?_
    refine to_free rfl rfl rfl rfl rfl (fun _ _ hk => opv_load1 (by first | exact .inr (Has.has HF) | exact .inr (Has.has HR1) | exact .inr (Has.has (HR.mono hF1))) rfl rfl rfl hk) ?_
    refine to_free rfl rfl rfl rfl rfl (fun _ _ hk => opv_load1 (by first | exact .inr (Has.has HF) | exact .inr (Has.has HR1) | exact .inr (Has.has (HR.mono hF1))) rfl rfl rfl hk) ?_
    refine to_eff rfl rfl rfl rfl rfl (opv_call rfl rfl rfl (opv_to [] [2] H (fun F2 h1 hF2 HR1 H1 => have hF := Hp.le_trans hF1 hF2; sd_idle (by have := hc.ths; omega) H1) ?_))
    rintro v h1 h ⟨rfl, H1⟩ J
    have H := J H1
    refine to_end fun h J => ?_
    have H := J H
    refine ud_op 3 (by kernel_rfl) (by kernel_rfl) rfl rfl rfl rfl (opv_assign rfl rfl ?_)
    refine ud_op 4 (by kernel_rfl) (by kernel_rfl) rfl rfl rfl rfl (opv_assign rfl rfl ?_)
    refine ud_end (by kernel_rfl) ?_
    exact run_leaveD (rs := [.tmp 6, .tmp 7]) (vs := [_, _]) G H Tryz.func34 rfl (.inr ⟨_, rfl⟩) fun h H => ⟨⟨rfl, rfl, trivial⟩, rfl, H.keep [0]⟩
  | false =>
    obtain ⟨hx, H⟩ := Own.ex1 H
    simp only [List.cons_append, List.nil_append] at H
    have hc := V.can _ hx.1
    dsimp only at hx H hc
    refine ⟨none, _, .ready H, fun h H => ?_⟩
    refine ur_inBlock ?_
    repeat refine ur_seq ?_
    refine ur_draw Tryz.mixed (by kernel_rfl) ?_
    refine ud_ro [0, 1] [0, 1, 2] [0, 1] (by kernel_rfl) (by kernel_rfl) H fun F1 h hF1 HF H => ?_
    refine to_free rfl rfl rfl rfl rfl (fun _ _ hk => opv_load1 (by first | exact .inr (Has.has HF) | exact .inr (Has.has HR1) | exact .inr (Has.has (HR.mono hF1))) rfl rfl rfl hk) ?_
    refine to_free rfl rfl rfl rfl rfl (fun _ _ hk => opv_load1 (by first | exact .inr (Has.has HF) | exact .inr (Has.has HR1) | exact .inr (Has.has (HR.mono hF1))) rfl rfl rfl hk) ?_
    refine to_eff rfl rfl rfl rfl rfl (opv_call rfl rfl rfl (opv_to [] [2] H (fun F2 h1 hF2 HR1 H1 => have hF := Hp.le_trans hF1 hF2; sd_idle (by have := hc.ths; omega) H1) ?_))
    rintro v h1 h ⟨rfl, H1⟩ J
    have H := J H1
    refine to_end fun h J => ?_
    have H := J H
    refine ud_op 3 (by kernel_rfl) (by kernel_rfl) rfl rfl rfl rfl (opv_assign rfl rfl ?_)
    refine ud_op 4 (by kernel_rfl) (by kernel_rfl) rfl rfl rfl rfl (opv_assign rfl rfl ?_)
    refine ud_end (by kernel_rfl) ?_
    exact run_leaveD (rs := [.tmp 6, .tmp 7]) (vs := [_, _]) G H Tryz.func34 rfl (.inr ⟨_, rfl⟩) fun h H => ⟨⟨rfl, rfl, trivial⟩, rfl, H.keep [0]⟩
end Go.Proofs
