/- Package sched: Idle. -/
import Derived.Test.YtnfcoikbkmhggaaGreatSched2
set_option linter.all false
set_option linter.unusedVariables false
set_option linter.unusedSimpArgs false
namespace Go.Proofs
open Go.BL
variable {F h : Hp} {c : Cf} {A : CA} {L : List HProp}
theorem RdSl.at1 {F : Hp} {a : Option Addr} {n : Nat} {xs : List Value} (R : RdSl F 1 a n xs) {i : Nat} {v : Value} (hx : xs[i]? = some v) :
    ∃ b off cs T fr, a = some ⟨b, off, none⟩ ∧ F b = some (.cells (List.toArray cs) T fr) ∧ cs[off + i]? = some v := by
  obtain ⟨q, x | ⟨b, off, T, fr, cxs, e, y, z, u⟩⟩ := R Hp.emp
  · subst x
    have : xs = [] := by apply List.length_eq_zero_iff.1; simpa using q
    subst this; cases hx
  · refine ⟨b, off, cxs.toList, T, fr, e, ?_, ?_⟩
    · rcases y with y | y
      · cases y
      · simpa using y
    · have h1 : (cxs.extract off (off + n * 1))[i]? = xs.toArray[i]? := by rw [u]
      have hi := (List.getElem?_eq_some_iff.1 hx).1
      have hn : n = xs.length := by simpa using q.symm
      subst hn
      simp only [Array.getElem?_extract, List.getElem?_toArray, hx] at h1
      have h2 : off + i < cxs.size := by simp only [Nat.mul_one] at z; omega
      rw [if_pos (by omega)] at h1
      simpa [Array.getElem?_toList, hi] using h1

theorem th_not_idle {b : Nat} {t : Th} (H : Own [ThR b t] h) : CallS Tryz.prog F 71 [.pointer (some ⟨b, 0, none⟩)].toArray h fun v h' => v = .bool (!t.idle) ∧ Own [ThR b t] h' := by
  refine callS_intro Tryz.func71 rfl rfl rfl fun C G => ?_
  repeat refine ur_seq ?_
  refine ur_region rfl ?_
  refine ur_opw rfl rfl rfl rfl rfl (opv_assign rfl rfl ?_)
  refine ur_region_end ?_
  repeat refine ur_seq ?_
  refine ur_region rfl ?_
  refine ur_opw rfl rfl rfl rfl rfl (opv_move rfl rfl ?_)
  refine ur_opw rfl rfl rfl rfl rfl (opv_call rfl rfl rfl (opv_to [] [0] H (fun F1 h1 hF HR1 H1 => th_idle H1) ?_))
  rintro v h1 h ⟨rfl, H1⟩ J
  have H := J H1
  refine ur_opw rfl rfl rfl rfl rfl (opv_not rfl rfl ?_)
  refine ur_opw rfl rfl rfl rfl rfl (opv_assign rfl rfl ?_)
  refine ur_region_end ?_
  exact ur_ret1 G Tryz.func71 rfl rfl ⟨rfl, H⟩

theorem sd_index {a : Option Addr} {bs : List Nat} {ths : List Th} {k : Nat} (hbl : bs.length = ths.length) (hl : ths.length < 2 ^ 30) (R : RdSl F 1 a ths.length (bs.map ptrV)) (H : Own [ThsR bs ths] h) : CallS Tryz.prog F 107 [.slice a ths.length k, .func (.func 71) #[] #[]].toArray h fun v h' => ∃ i : Int, v = .int .i64 i ∧ (0 ≤ i ↔ ∃ t ∈ ths, t.idle = false) ∧ Own [ThsR bs ths] h' := by
  refine callS_intro Tryz.func107 rfl rfl rfl fun C G => ?_
  repeat refine ur_seq ?_
  refine ur_region rfl ?_
  refine ur_opw rfl rfl rfl rfl rfl (opv_assign rfl rfl ?_)
  refine ur_region_end ?_
  repeat refine ur_seq ?_
  refine ur_region rfl ?_
  refine ur_opw rfl rfl rfl rfl rfl (opv_move rfl rfl ?_)
  refine ur_opw rfl rfl rfl rfl rfl (opv_len rfl rfl ?_)
  refine ur_opw rfl rfl rfl rfl rfl (opv_move rfl rfl ?_)
  refine ur_region_end ?_
  repeat refine ur_seq ?_
  refine ur_block ?_
  refine ur_sub (l' := [(8, .int .i64 (0 : Nat)), (7, .int .i64 ths.length), (0, .slice a ths.length k), (1, .func (.func 71) #[] #[])]) ⟨rfl, rfl, rfl, rfl, trivial⟩ ?_
  refine ur_loop_inv (n := ths.length) (fun n l h => ∃ (i : Nat), l = [(8, .int .i64 (i : Nat)), (7, .int .i64 ths.length), (0, .slice a ths.length k), (1, .func (.func 71) #[] #[])] ∧ n + i = ths.length ∧ (∀ j t, j < i → ths[j]? = some t → t.idle = true) ∧ Own [ThsR bs ths] h) ⟨0, rfl, by omega, fun j t hj => by omega, H⟩ ?_
  rintro n ih l h ⟨i, rfl, hn, hj, H⟩
  repeat refine ur_seq ?_
  refine ur_region rfl ?_
  refine ur_opw rfl rfl rfl rfl rfl (opv_cmp rfl rfl rfl rfl ?_)
  refine ur_region_end ?_
  repeat refine ur_seq ?_
  refine ur_cond rfl (fun hc1 => ?_) (fun hc1 => ?_)
  · -- yes
    try simp only [decide_eq_true_eq, decide_eq_false_iff_not, Bool.not_eq_true', Bool.not_eq_false', beq_iff_eq, bne_iff_ne, beq_eq_false_iff_ne, bne_eq_false_iff_eq, ne_eq, Decidable.not_not] at hc1
    have hi : i < ths.length := by omega
    obtain ⟨t, ht⟩ : ∃ t, ths[i]? = some t := ⟨_, List.getElem?_eq_getElem hi⟩
    obtain ⟨tb, htb, H⟩ := ThsR.take ht H
    have hpv : (bs.map ptrV)[i]? = some (ptrV tb) := by simp [htb]
    obtain ⟨b, off, cs, T, fr, rfl, hb, hv⟩ := RdSl.at1 R hpv
    refine ur_skip ?_
    repeat refine ur_seq ?_
    refine ur_block ?_
    repeat refine ur_seq ?_
    refine ur_region rfl ?_
    refine ur_opw rfl rfl rfl rfl rfl (opv_move rfl rfl ?_)
    refine ur_opw rfl rfl rfl rfl rfl (opv_assign rfl rfl ?_)
    refine ur_region_end ?_
    repeat refine ur_seq ?_
    refine ur_region rfl ?_
    refine ur_opw rfl rfl rfl rfl rfl (opv_move rfl rfl ?_)
    refine ur_opw rfl rfl rfl rfl rfl (opv_move rfl rfl ?_)
    refine ur_opw rfl rfl rfl rfl rfl (opv_move rfl rfl ?_)
    refine ur_opw rfl rfl rfl rfl rfl (opv_indexAt (r := off + i) rfl rfl rfl ⟨by omega, by omega⟩ (by simp) ?_)
    refine ur_opw rfl rfl rfl rfl rfl (opv_load1 (.inr hb) rfl rfl hv ?_)
    refine ur_opw rfl rfl rfl rfl rfl (opv_call rfl rfl rfl (opv_to [] [0] H (fun F1 h1 hF HR1 H1 => th_not_idle H1) ?_))
    rintro v h1 h ⟨rfl, H1⟩ J
    have H := J H1
    refine ur_region_end ?_
    have H := ThsR.put hbl htb H
    rw [set_get ht] at H
    refine ur_cond rfl (fun hc2 => ?_) (fun hc2 => ?_)
    · -- yes
      try simp only [decide_eq_true_eq, decide_eq_false_iff_not, Bool.not_eq_true', Bool.not_eq_false', beq_iff_eq, bne_iff_ne, beq_eq_false_iff_ne, bne_eq_false_iff_eq, ne_eq, Decidable.not_not] at hc2
      repeat refine ur_seq ?_
      refine ur_region rfl ?_
      refine ur_opw rfl rfl rfl rfl rfl (opv_move rfl rfl ?_)
      refine ur_opw rfl rfl rfl rfl rfl (opv_assign rfl rfl ?_)
      refine ur_region_end ?_
      exact ur_ret1 G Tryz.func107 rfl rfl ⟨i, rfl, ⟨fun _ => ⟨t, List.mem_of_getElem? ht, by simpa using hc2⟩, fun _ => by omega⟩, H⟩
    · -- no
      try simp only [decide_eq_true_eq, decide_eq_false_iff_not, Bool.not_eq_true', Bool.not_eq_false', beq_iff_eq, bne_iff_ne, beq_eq_false_iff_ne, bne_eq_false_iff_eq, ne_eq, Decidable.not_not] at hc2
      refine ur_skip ?_
      refine ur_inBlock ?_
      refine ur_region rfl ?_
      refine ur_opw rfl rfl rfl rfl rfl (opv_arith rfl rfl rfl rfl (by first | exact wi (by omega) | rfl) ?_)
      refine ur_opw rfl rfl rfl rfl rfl (opv_move rfl rfl ?_)
      refine ur_region_end ?_
      refine ur_sub (l' := [(8, .int .i64 (i + 1 : Nat)), (7, .int .i64 ths.length), (0, .slice _ ths.length k), (1, .func (.func 71) #[] #[])]) ⟨rfl, rfl, rfl, rfl, trivial⟩ ?_
      refine ih (n - 1) _ _ (by omega) ⟨i + 1, rfl, by omega, fun j u hj2 hu => ?_, H⟩
      by_cases e : j = i
      · subst e; rw [ht] at hu; cases hu; simpa using hc2
      · exact hj j u (by omega) hu
  · -- no
    try simp only [decide_eq_true_eq, decide_eq_false_iff_not, Bool.not_eq_true', Bool.not_eq_false', beq_iff_eq, bne_iff_ne, beq_eq_false_iff_ne, bne_eq_false_iff_eq, ne_eq, Decidable.not_not] at hc1
    refine ur_exit rfl ?_
    repeat refine ur_seq ?_
    refine ur_region rfl ?_
    refine ur_opw rfl rfl rfl rfl rfl (opv_assign rfl rfl ?_)
    refine ur_region_end ?_
    exact ur_ret1 G Tryz.func107 rfl rfl ⟨-1, rfl, ⟨fun q => by omega, fun ⟨t, q, q2⟩ => by obtain ⟨j, hx⟩ := List.mem_iff_getElem?.1 q; rw [hj j t (by have := (List.getElem?_eq_some_iff.1 hx).1; omega) hx] at q2; cases q2⟩, H⟩

theorem sd_contains {a : Option Addr} {bs : List Nat} {ths : List Th} {k : Nat} (hbl : bs.length = ths.length) (hl : ths.length < 2 ^ 30) (R : RdSl F 1 a ths.length (bs.map ptrV)) (H : Own [ThsR bs ths] h) : CallS Tryz.prog F 70 [.slice a ths.length k, .func (.func 71) #[] #[]].toArray h fun v h' => v = .bool (!(ths.all (·.idle))) ∧ Own [ThsR bs ths] h' := by
  refine callS_intro Tryz.func70 rfl rfl rfl fun C G => ?_
  repeat refine ur_seq ?_
  refine ur_region rfl ?_
  refine ur_opw rfl rfl rfl rfl rfl (opv_assign rfl rfl ?_)
  refine ur_region_end ?_
  repeat refine ur_seq ?_
  refine ur_region rfl ?_
  refine ur_opw rfl rfl rfl rfl rfl (opv_move rfl rfl ?_)
  refine ur_opw rfl rfl rfl rfl rfl (opv_move rfl rfl ?_)
  refine ur_opw rfl rfl rfl rfl rfl (opv_call rfl rfl rfl (opv_to [] [0] H (fun F1 h1 hF HR1 H1 => sd_index hbl hl (R.mono hF) H1) ?_))
  rintro v h1 h ⟨i, rfl, hi, H1⟩ J
  have H := J H1
  refine ur_opw rfl rfl rfl rfl rfl (opv_cmp rfl rfl rfl rfl ?_)
  refine ur_opw rfl rfl rfl rfl rfl (opv_assign rfl rfl ?_)
  refine ur_region_end ?_
  exact ur_ret1 G Tryz.func70 rfl rfl ⟨by rw [show (decide ((0:Int) ≤ i)) = !(ths.all (·.idle)) from by rw [Bool.eq_iff_iff]; simp [hi]], H⟩

theorem sd_idle {sb : Nat} {bs : List Nat} {s : Sd} (hl : s.ths.length < 2 ^ 30) (H : Own [SdR sb A bs s] h) : CallS Tryz.prog F 33 [.pointer (some ⟨sb, 0, none⟩)].toArray h fun v h' => v = .bool s.idle ∧ Own [SdR sb A bs s] h' := by
  refine callS_intro Tryz.func33 rfl rfl rfl fun C G => ?_
  obtain ⟨mb, ta, tc, ea, ec, hbl, H⟩ := SdR.open H
  repeat refine ur_seq ?_
  refine ur_region rfl ?_
  refine ur_opw rfl rfl rfl rfl rfl (opv_assign rfl rfl ?_)
  refine ur_region_end ?_
  repeat refine ur_seq ?_
  refine ur_region rfl ?_
  refine ur_opw rfl rfl rfl rfl rfl (opv_move rfl rfl ?_)
  refine ur_opw rfl rfl rfl rfl rfl (opv_nilCheck rfl rfl ?_)
  refine ur_opw rfl rfl rfl rfl rfl (opv_fieldAddr0 rfl rfl rfl ?_)
  refine ur_opw rfl rfl rfl rfl rfl (opv_load1 (by first | exact .inl (Has.has H) | exact .inr (Has.has HR)) rfl rfl rfl ?_)
  refine ur_opw rfl rfl rfl rfl rfl (opv_call rfl rfl rfl (opv_to [2] [3] H (fun F1 h1 hF HR1 H1 => sd_contains hbl hl (RdSl.ofSl HR1) H1) ?_))
  rintro v h1 h ⟨rfl, H1⟩ J
  have H := J H1
  refine ur_opw rfl rfl rfl rfl rfl (opv_not rfl rfl ?_)
  refine ur_opw rfl rfl rfl rfl rfl (opv_assign rfl rfl ?_)
  refine ur_region_end ?_
  exact ur_ret1 G Tryz.func33 rfl rfl ⟨by simp [Sd.idle], (Own.fold (A := SdR sb A bs s) [2, 2, 1, 1, 0] H fun h H => ⟨mb, ta, tc, ea, ec, hbl, H⟩).keep [0]⟩
end Go.Proofs
