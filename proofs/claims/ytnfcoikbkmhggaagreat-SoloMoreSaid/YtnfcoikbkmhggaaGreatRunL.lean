/- Package sched: New, Run; package solo: Finish. -/
import Derived.Test.YtnfcoikbkmhggaaGreatLoops
set_option linter.all false
set_option linter.unusedVariables false
set_option linter.unusedSimpArgs false
namespace Go.Proofs
open Go.BL
variable {F h : Hp} {c : Cf} {A : CA} {L : List HProp}

theorem sd_new {ca : Option Addr} {cs : List (List Cl)} {cc : Nat} (o : c.Ok) (R : RdC F c A) (RC : RdCs F ca cs) (hl : cs.length < 1000) (hr : ∀ l ∈ cs, l.length < 1000) : CallS Tryz.prog F 64 [.agg (cfv c A).toArray, .slice ca cs.length cc].toArray h fun v h' => ∃ sb bs, v = .pointer (some ⟨sb, 0, none⟩) ∧ Own [SdR sb A bs (Sd.new c cs)] h' := by
  refine callS_intro Tryz.func64 rfl rfl rfl fun C G => ?_
  have H : Own [] h := trivial
  repeat refine ur_seq ?_
  refine ur_region rfl ?_
  refine ur_opw rfl rfl rfl rfl rfl (opv_box H rfl rfl fun b1 h hb1 H => ?_)
  refine ur_opw rfl rfl rfl rfl rfl (opv_assign rfl rfl ?_)
  refine ur_region_end ?_
  repeat refine ur_seq ?_
  refine ur_draw Tryz.mixed (by kernel_rfl) ?_
  refine ud_ro [0] [0, 1, 2] [0, 1] (by kernel_rfl) (by kernel_rfl) H fun F1 h hF1 HF H => ?_
  refine to_free rfl rfl rfl rfl rfl (fun _ _ hk => opv_loadA (by first | exact .inr (Has.has HF) | exact .inr (Has.has HR1) | exact .inr (Has.has (HR.mono hF1))) rfl rfl hk) ?_
  refine to_free rfl rfl rfl rfl rfl (fun _ _ hk => opv_loadA (by first | exact .inr (Has.has HF) | exact .inr (Has.has HR1) | exact .inr (Has.has (HR.mono hF1))) rfl rfl hk) ?_
  refine to_eff rfl rfl rfl rfl rfl (opv_call rfl rfl rfl (opv_to [] [] H (fun F2 h1 hF2 HR1 H1 => have hF := Hp.le_trans hF1 hF2; plan_fresh o (R.mono hF)) ?_))
  rintro v h1 h ⟨mb, rfl, H1⟩ J
  have H := J H1
  refine to_end fun h J => ?_
  have H := J H
  refine ud_op 3 (by kernel_rfl) (by kernel_rfl) rfl rfl rfl rfl (opv_build rfl rfl ?_)
  refine ud_op 4 (by kernel_rfl) (by kernel_rfl) rfl rfl rfl rfl (opv_box H rfl rfl fun b2 h hb2 H => ?_)
  refine ud_op 5 (by kernel_rfl) (by kernel_rfl) rfl rfl rfl rfl (opv_assign rfl rfl ?_)
  refine ud_end (by kernel_rfl) ?_
  repeat refine ur_seq ?_
  refine ur_region rfl ?_
  refine ur_opw rfl rfl rfl rfl rfl (opv_move rfl rfl ?_)
  refine ur_opw rfl rfl rfl rfl rfl (opv_len rfl rfl ?_)
  refine ur_opw rfl rfl rfl rfl rfl (opv_move rfl rfl ?_)
  refine ur_region_end ?_
  repeat refine ur_seq ?_
  refine ur_block ?_
  have H := Own.addNil 97 1 H
  have H := Own.fold (A := ThsR [] []) [] H fun h _ => trivial
  refine ur_sub (l' := [(15, .int .i64 (0 : Nat)), (14, .int .i64 cs.length), (13, .slice ca cs.length cc), (5, .pointer (some ⟨b2, 0, none⟩))]) ⟨rfl, rfl, rfl, rfl, trivial⟩ ?_
  refine ur_loop_inv (n := cs.length) (fun n l h => ∃ (i : Nat) (ta : Option Addr) (tc : Nat) (bs : List Nat), l = [(15, .int .i64 (i : Nat)), (14, .int .i64 cs.length), (13, .slice ca cs.length cc), (5, .pointer (some ⟨b2, 0, none⟩))] ∧ n + i = cs.length ∧ bs.length = i ∧ Own [pt b2 (.cells (sdl c A mb ta i tc none 0 0).toArray 92 (0, 0)), SlR 97 1 ta i tc (bs.map ptrV), ThsR bs ((cs.take i).map fun l => (⟨l, .zero, none⟩ : Th)), MemR mb c.freshW 0] h) ⟨0, none, 0, [], rfl, by omega, rfl, by simpa using H.keep [2, 1, 0, 0]⟩ ?_
  rintro n ih l h ⟨i, ta, tc, bs, rfl, hn, hbl, H⟩
  repeat refine ur_seq ?_
  refine ur_region rfl ?_
  refine ur_opw rfl rfl rfl rfl rfl (opv_cmp rfl rfl rfl rfl ?_)
  refine ur_region_end ?_
  repeat refine ur_seq ?_
  refine ur_cond rfl (fun hc3 => ?_) (fun hc3 => ?_)
  · -- yes
    try simp only [decide_eq_true_eq, decide_eq_false_iff_not, Bool.not_eq_true', Bool.not_eq_false', beq_iff_eq, bne_iff_ne, beq_eq_false_iff_ne, bne_eq_false_iff_eq, ne_eq, Decidable.not_not] at hc3
    have hi : i < cs.length := by omega
    obtain ⟨l, hl2⟩ : ∃ l, cs[i]? = some l := ⟨_, List.getElem?_eq_getElem hi⟩
    obtain ⟨rb, roff, rxs, rT, rfr, la, lc, rfl, hrb, hrv, hrl⟩ := RC.at hl2
    have hll := hr l (List.mem_of_getElem? hl2)
    refine ur_skip ?_
    repeat refine ur_seq ?_
    refine ur_block ?_
    repeat refine ur_seq ?_
    refine ur_region rfl ?_
    refine ur_opw rfl rfl rfl rfl rfl (opv_indexAt (r := roff + i) rfl rfl rfl ⟨by omega, by omega⟩ (by simp) ?_)
    refine ur_opw rfl rfl rfl rfl rfl (opv_load1 (.inr hrb) rfl rfl hrv ?_)
    refine ur_opw rfl rfl rfl rfl rfl (opv_assign rfl rfl ?_)
    refine ur_region_end ?_
    refine ur_draw Tryz.mixed (by kernel_rfl) ?_
    refine ud_ro [0] [0, 1, 2, 3, 4, 5, 6, 7, 8, 9, 10] [0, 1, 2, 3, 4, 5, 7] (by kernel_rfl) (by kernel_rfl) H fun F1 h hF1 HF H => ?_
    refine to_free rfl rfl rfl rfl rfl (fun _ _ hk => opv_move rfl rfl hk) ?_
    refine to_free rfl rfl rfl rfl rfl (fun _ _ hk => opv_move rfl rfl hk) ?_
    refine to_free rfl rfl rfl rfl rfl (fun _ _ hk => opv_nilCheck rfl rfl hk) ?_
    refine to_free rfl rfl rfl rfl rfl (fun _ _ hk => opv_fieldAddr0 rfl rfl rfl hk) ?_
    refine to_free rfl rfl rfl rfl rfl (fun _ _ hk => opv_load1 (by first | exact .inr (Has.has HF) | exact .inr (Has.has HR1) | exact .inr (Has.has (HR.mono hF1))) rfl rfl rfl hk) ?_
    refine to_free rfl rfl rfl rfl rfl (fun _ _ hk => opv_move rfl rfl hk) ?_
    refine to_eff rfl rfl rfl rfl rfl (opv_call rfl rfl rfl (opv_to [] [] H (fun F2 h1 hF2 HR1 H1 => have hF := Hp.le_trans hF1 hF2; cloneCalls (hrl.mono (Hp.le_trans hF1 hF2)) (ones_cls l) (by omega)) ?_))
    rintro v h1 h ⟨a', c', rfl, H1⟩ J
    have H := J H1
    refine to_free rfl rfl rfl rfl rfl (fun _ _ hk => opv_build rfl rfl hk) ?_
    refine to_eff rfl rfl rfl rfl rfl (opv_box H rfl rfl fun tb h htb H => ?_)
    refine to_eff rfl rfl rfl rfl rfl (opv_buildSlice H rfl rfl rfl rfl rfl fun b4 h hb4 H => ?_)
    refine to_eff rfl rfl rfl rfl rfl (opv_append H rfl rfl (by first | exact .inl (Has.has H) | exact .inr (Has.has HF) | exact .inr (Has.has (HR.mono hF1))) rfl rfl (by omega) (by omega) fun tn tnc h H => ?_)
    refine to_end fun h J => ?_
    have H := J H
    refine ud_op 11 (by kernel_rfl) (by kernel_rfl) rfl rfl rfl rfl (opv_nilCheck rfl rfl ?_)
    refine ud_op 12 (by kernel_rfl) (by kernel_rfl) rfl rfl rfl rfl (opv_fieldAddr0 rfl rfl rfl ?_)
    refine ud_op0 13 (by kernel_rfl) (by kernel_rfl) rfl rfl rfl rfl (opv_store H rfl rfl rfl rfl rfl rfl rfl fun h H => ?_)
    refine ud_end (by kernel_rfl) ?_
    obtain ⟨hlc, hnil⟩ := SlR.nil_cs (H.bring [3])
    have H := LfR.ofSl hnil (H.bring [3])
    have H := Own.fold (A := NowR .nilIface none) [] H fun h _ => rfl
    have H := Own.fold (A := ThR tb ⟨l, .zero, none⟩) [4, 1, 0] H fun h H => ⟨a', c', _, hlc, H⟩
    have H := ThsR.snoc (H.bring [3, 0])
    refine ur_inBlock ?_
    refine ur_region rfl ?_
    refine ur_opw rfl rfl rfl rfl rfl (opv_arith rfl rfl rfl rfl (by first | exact wi (by omega) | rfl) ?_)
    refine ur_opw rfl rfl rfl rfl rfl (opv_move rfl rfl ?_)
    refine ur_region_end ?_
    refine ur_sub (l' := [(15, .int .i64 (i + 1 : Nat)), (14, .int .i64 cs.length), (13, .slice _ cs.length cc), (5, .pointer (some ⟨b2, 0, none⟩))]) ⟨rfl, rfl, rfl, rfl, trivial⟩ ?_
    refine ih (n - 1) _ _ (by omega) ⟨i + 1, tn, tnc, bs ++ [tb], rfl, by omega, by simp [hbl], by simpa [List.take_add_one, hl2] using H.keep [4, 1, 0, 1]⟩
  · -- no
    try simp only [decide_eq_true_eq, decide_eq_false_iff_not, Bool.not_eq_true', Bool.not_eq_false', beq_iff_eq, bne_iff_ne, beq_eq_false_iff_ne, bne_eq_false_iff_eq, ne_eq, Decidable.not_not] at hc3
    refine ur_exit rfl ?_
    repeat refine ur_seq ?_
    refine ur_region rfl ?_
    refine ur_opw rfl rfl rfl rfl rfl (opv_move rfl rfl ?_)
    refine ur_opw rfl rfl rfl rfl rfl (opv_assign rfl rfl ?_)
    refine ur_region_end ?_
    have hi : i = cs.length := by omega
    rw [hi, List.take_length] at H
    have H := Own.addNil 75 10 H
    exact ur_ret1 G Tryz.func64 rfl rfl ⟨b2, bs, rfl, (Own.fold (A := SdR b2 A bs (Sd.new c cs)) [1, 3, 1, 0, 0] H fun h H => ⟨mb, ta, tc, none, 0, by simp [Sd.new, hbl, hi], by simpa [Sd.new, evsv] using H⟩).keep [0]⟩

theorem sd_run {I : Sd → Prop} {φ : Sd → Nat} (V : Sd.Inv I φ c) {ca pa : Option Addr} {cs : List (List Cl)} {ps : List Int} {cc pc : Nat} (o : c.Ok) (R : RdC F c A) (RC : RdCs F ca cs) (RP : RdI F pa ps) (hl : cs.length < 1000) (hr : ∀ l ∈ cs, l.length < 1000) (hps : ps.length < 2 ^ 20) (hI : I (Sd.new c cs)) : CallS Tryz.prog F 27 [.agg (cfv c A).toArray, .slice ca cs.length cc, .slice pa ps.length pc].toArray h fun v h' => ∃ sb bs, v = .pointer (some ⟨sb, 0, none⟩) ∧ Own [SdR sb A bs ((Sd.new c cs).picks ps)] h' := by
  refine callS_intro Tryz.func27 rfl rfl rfl fun C G => ?_
  have H : Own [] h := trivial
  repeat refine ur_seq ?_
  refine ur_region rfl ?_
  refine ur_opw rfl rfl rfl rfl rfl (opv_box H rfl rfl fun b1 h hb1 H => ?_)
  refine ur_opw rfl rfl rfl rfl rfl (opv_assign rfl rfl ?_)
  refine ur_region_end ?_
  repeat refine ur_seq ?_
  refine ur_region rfl ?_
  refine ur_opw rfl rfl rfl rfl rfl (opv_loadA (by first | exact .inl (Has.has H) | exact .inr (Has.has HR)) rfl rfl ?_)
  refine ur_opw rfl rfl rfl rfl rfl (opv_move rfl rfl ?_)
  refine ur_opw rfl rfl rfl rfl rfl (opv_call rfl rfl rfl (opv_to [] [] H (fun F1 h1 hF HR1 H1 => sd_new o (R.mono hF) (RC.mono hF) hl hr) ?_))
  rintro v h1 h ⟨sb, bs, rfl, H1⟩ J
  have H := J H1
  refine ur_opw rfl rfl rfl rfl rfl (opv_assign rfl rfl ?_)
  refine ur_region_end ?_
  repeat refine ur_seq ?_
  refine ur_region rfl ?_
  refine ur_opw rfl rfl rfl rfl rfl (opv_move rfl rfl ?_)
  refine ur_opw rfl rfl rfl rfl rfl (opv_makeFunc rfl rfl rfl ?_)
  refine ur_opw rfl rfl rfl rfl rfl (opv_assign rfl rfl ?_)
  refine ur_region_end ?_
  repeat refine ur_seq ?_
  refine ur_region rfl ?_
  refine ur_opw rfl rfl rfl rfl rfl (opv_move rfl rfl ?_)
  refine ur_opw rfl rfl rfl rfl rfl (opv_len rfl rfl ?_)
  refine ur_opw rfl rfl rfl rfl rfl (opv_move rfl rfl ?_)
  refine ur_region_end ?_
  repeat refine ur_seq ?_
  refine ur_block ?_
  refine ur_sub (l' := [(18, .int .i64 (0 : Nat)), (17, .int .i64 ps.length), (16, .slice pa ps.length pc), (8, .func (.func 32) [Value.pointer (some ⟨sb, 0, none⟩)].toArray #[]), (7, .pointer (some ⟨sb, 0, none⟩))]) ⟨rfl, rfl, rfl, rfl, rfl, trivial⟩ ?_
  refine ur_loop_inv (n := ps.length) (fun n l h => ∃ (i : Nat), l = [(18, .int .i64 (i : Nat)), (17, .int .i64 ps.length), (16, .slice pa ps.length pc), (8, .func (.func 32) [Value.pointer (some ⟨sb, 0, none⟩)].toArray #[]), (7, .pointer (some ⟨sb, 0, none⟩))] ∧ n + i = ps.length ∧ I ((Sd.new c cs).picks (ps.take i)) ∧ Own [SdR sb A bs ((Sd.new c cs).picks (ps.take i))] h) ⟨0, rfl, by omega, by simpa [Sd.picks] using hI, by simpa [Sd.picks] using H.keep [0]⟩ ?_
  rintro n ih l h ⟨i, rfl, hn, hg, H⟩
  repeat refine ur_seq ?_
  refine ur_region rfl ?_
  refine ur_opw rfl rfl rfl rfl rfl (opv_cmp rfl rfl rfl rfl ?_)
  refine ur_region_end ?_
  repeat refine ur_seq ?_
  refine ur_cond rfl (fun hc2 => ?_) (fun hc2 => ?_)
  · -- yes
    try simp only [decide_eq_true_eq, decide_eq_false_iff_not, Bool.not_eq_true', Bool.not_eq_false', beq_iff_eq, bne_iff_ne, beq_eq_false_iff_ne, bne_eq_false_iff_eq, ne_eq, Decidable.not_not] at hc2
    have hi : i < ps.length := by omega
    obtain ⟨p, hp⟩ : ∃ p, ps[i]? = some p := ⟨_, List.getElem?_eq_getElem hi⟩
    obtain ⟨rb, roff, rxs, rT, rfr, rfl, hrb, hrv⟩ := RP.at hp
    have hs : (Sd.new c cs).picks (ps.take (i + 1)) = (((Sd.new c cs).picks (ps.take i)).pick p).1 := by simp [Sd.picks, List.take_add_one, hp]
    have hcf := V.cf _ hg
    refine ur_skip ?_
    repeat refine ur_seq ?_
    refine ur_block ?_
    repeat refine ur_seq ?_
    refine ur_region rfl ?_
    refine ur_opw rfl rfl rfl rfl rfl (opv_indexAt (r := roff + i) rfl rfl rfl ⟨by omega, by omega⟩ (by simp) ?_)
    refine ur_opw rfl rfl rfl rfl rfl (opv_load1 (.inr hrb) rfl rfl hrv ?_)
    refine ur_opw rfl rfl rfl rfl rfl (opv_assign rfl rfl ?_)
    refine ur_region_end ?_
    refine ur_region rfl ?_
    refine ur_opw rfl rfl rfl rfl rfl (opv_move rfl rfl ?_)
    refine ur_opw rfl rfl rfl rfl rfl (opv_move rfl rfl ?_)
    refine ur_opw rfl rfl rfl rfl rfl (opv_call rfl rfl rfl (opv_to [] [0] H (fun F1 h1 hF HR1 H1 => sd_pick (hcf.symm ▸ R.mono hF) (V.can _ hg) H1) ?_))
    rintro v h1 h ⟨rfl, H1⟩ J
    have H := J H1
    refine ur_region_end ?_
    refine ur_inBlock ?_
    refine ur_region rfl ?_
    refine ur_opw rfl rfl rfl rfl rfl (opv_arith rfl rfl rfl rfl (by first | exact wi (by omega) | rfl) ?_)
    refine ur_opw rfl rfl rfl rfl rfl (opv_move rfl rfl ?_)
    refine ur_region_end ?_
    rw [← hs] at H
    refine ur_sub (l' := [(18, .int .i64 (i + 1 : Nat)), (17, .int .i64 ps.length), (16, .slice _ ps.length pc), (8, .func (.func 32) [Value.pointer (some ⟨sb, 0, none⟩)].toArray #[]), (7, .pointer (some ⟨sb, 0, none⟩))]) ⟨rfl, rfl, rfl, rfl, rfl, trivial⟩ ?_
    refine ih (n - 1) _ _ (by omega) ⟨i + 1, rfl, by omega, by rw [hs]; exact V.pick _ _ hg, H⟩
  · -- no
    try simp only [decide_eq_true_eq, decide_eq_false_iff_not, Bool.not_eq_true', Bool.not_eq_false', beq_iff_eq, bne_iff_ne, beq_eq_false_iff_ne, bne_eq_false_iff_eq, ne_eq, Decidable.not_not] at hc2
    refine ur_exit rfl ?_
    repeat refine ur_seq ?_
    refine ur_region rfl ?_
    refine ur_opw rfl rfl rfl rfl rfl (opv_move rfl rfl ?_)
    refine ur_opw rfl rfl rfl rfl rfl (opv_assign rfl rfl ?_)
    refine ur_region_end ?_
    have hi : i = ps.length := by omega
    rw [hi, List.take_length] at H
    exact ur_ret1 G Tryz.func27 rfl rfl ⟨sb, bs, rfl, H⟩

theorem sd_busy {sb : Nat} {i : Int} {bs : List Nat} {s : Sd} (H : Own [SdR sb A bs s] h) : CallS Tryz.prog F 31 [.pointer (some ⟨sb, 0, none⟩), .int .i64 i].toArray h fun v h' => v = .bool (s.busy i) ∧ Own [SdR sb A bs s] h' := by
  by_cases hi : i < 0 ∨ (s.ths.length : Int) ≤ i
  · have e : s.busy i = false := by unfold Sd.busy; rcases hi with q | q <;> simp <;> omega
    rw [e]; exact sd_busy_out hi H
  · obtain ⟨j, rfl⟩ := Int.eq_ofNat_of_zero_le (show 0 ≤ i by omega)
    have hj : j < s.ths.length := by omega
    obtain ⟨t, ht⟩ : ∃ t, s.ths[j]? = some t := ⟨_, List.getElem?_eq_getElem hj⟩
    have e : s.busy j = t.now.isSome := by unfold Sd.busy; rw [Int.toNat_natCast, ht]; simp [hj]
    rw [e]
    cases hn : t.now with
    | none => exact sd_busy_none ht hn H
    | some m => exact sd_busy_some ht hn H

theorem so_finish {I : Sd → Prop} {φ : Sd → Nat} (V : Sd.Inv I φ c) {sb xb : Nat} {t : Int} {bs : List Nat} {s : Sd} (o : c.Ok) (R : RdC F c A) (hI : I s) (H : Own [SdR sb A bs s, pt xb (.cells [Value.int .i64 (10 * c.bound)].toArray 88 (0, 0))] h) : CallS Tryz.prog F 30 [.pointer (some ⟨xb, 0, none⟩), .pointer (some ⟨sb, 0, none⟩), .int .i64 t].toArray h fun v h' => v = .int .i64 (s.finish (10 * c.bound).toNat t).2 ∧ Own [SdR sb A bs (s.finish (10 * c.bound).toNat t).1, pt xb (.cells [Value.int .i64 (10 * c.bound)].toArray 88 (0, 0))] h' := by
  refine callS_intro Tryz.func30 rfl rfl rfl fun C G => ?_
  have hb := o.bound
  obtain ⟨M, hM⟩ := Int.eq_ofNat_of_zero_le (show 0 ≤ 10 * c.bound by omega)
  have hM2 : (10 * c.bound).toNat = M := by omega
  rw [hM2] at G
  repeat refine ur_seq ?_
  refine ur_region rfl ?_
  refine ur_opw rfl rfl rfl rfl rfl (opv_assign rfl rfl ?_)
  refine ur_region_end ?_
  repeat refine ur_seq ?_
  refine ur_region rfl ?_
  refine ur_opw rfl rfl rfl rfl rfl (opv_assign rfl rfl ?_)
  refine ur_region_end ?_
  repeat refine ur_seq ?_
  refine ur_block ?_
  refine ur_sub (l' := [(7, .int .i64 (0 : Nat)), (0, .pointer (some ⟨xb, 0, none⟩)), (1, .pointer (some ⟨sb, 0, none⟩)), (2, .int .i64 t)]) ⟨rfl, rfl, rfl, rfl, trivial⟩ ?_
  refine ur_loop_inv (n := M) (fun n l h => ∃ (i : Nat) (s1 : Sd), l = [(7, .int .i64 (i : Nat)), (0, .pointer (some ⟨xb, 0, none⟩)), (1, .pointer (some ⟨sb, 0, none⟩)), (2, .int .i64 t)] ∧ n + i = M ∧ I s1 ∧ s.finish M t = ((s1.finish n t).1, i + (s1.finish n t).2) ∧ Own [SdR sb A bs s1, pt xb (.cells [Value.int .i64 (10 * c.bound)].toArray 88 (0, 0))] h) ⟨0, s, rfl, by omega, hI, by simp, H⟩ ?_
  rintro n ih l h ⟨i, s1, rfl, hn, hg, hf, H⟩
  repeat refine ur_seq ?_
  refine ur_region rfl ?_
  refine ur_opw rfl rfl rfl rfl rfl (opv_move rfl rfl ?_)
  refine ur_opw rfl rfl rfl rfl rfl (opv_move rfl rfl ?_)
  refine ur_opw rfl rfl rfl rfl rfl (opv_nilCheck rfl rfl ?_)
  refine ur_opw rfl rfl rfl rfl rfl (opv_fieldAddr0 rfl rfl rfl ?_)
  refine ur_opw rfl rfl rfl rfl rfl (opv_load1 (by first | exact .inl (Has.has H) | exact .inr (Has.has HR)) rfl rfl rfl ?_)
  refine ur_opw rfl rfl rfl rfl rfl (opv_cmp rfl rfl rfl rfl ?_)
  refine ur_opw rfl rfl rfl rfl rfl (opv_move rfl rfl ?_)
  refine ur_split 14 rfl (fun hc1 => ?_) (fun hc1 => ?_)
  · -- yes
    try simp only [decide_eq_true_eq, decide_eq_false_iff_not, Bool.not_eq_true', Bool.not_eq_false', beq_iff_eq, bne_iff_ne, beq_eq_false_iff_ne, bne_eq_false_iff_eq, ne_eq, Decidable.not_not] at hc1
    have hcf := V.cf _ hg
    refine ur_opw rfl rfl rfl rfl rfl (opv_move rfl rfl ?_)
    refine ur_opw rfl rfl rfl rfl rfl (opv_move rfl rfl ?_)
    refine ur_opw rfl rfl rfl rfl rfl (opv_call rfl rfl rfl (opv_to [] [0] H (fun F1 h1 hF HR1 H1 => sd_busy H1) ?_))
    rintro v h1 h ⟨rfl, H1⟩ J
    have H := J H1
    refine ur_opw rfl rfl rfl rfl rfl (opv_pick rfl rfl rfl ?_)
    refine ur_region_end ?_
    repeat refine ur_seq ?_
    refine ur_cond rfl (fun hc2 => ?_) (fun hc2 => ?_)
    · -- yes
      try simp only [decide_eq_true_eq, decide_eq_false_iff_not, Bool.not_eq_true', Bool.not_eq_false', beq_iff_eq, bne_iff_ne, beq_eq_false_iff_ne, bne_eq_false_iff_eq, ne_eq, Decidable.not_not] at hc2
      refine ur_skip ?_
      refine ur_block ?_
      repeat refine ur_seq ?_
      refine ur_region rfl ?_
      refine ur_opw rfl rfl rfl rfl rfl (opv_move rfl rfl ?_)
      refine ur_opw rfl rfl rfl rfl rfl (opv_move rfl rfl ?_)
      refine ur_opw rfl rfl rfl rfl rfl (opv_call rfl rfl rfl (opv_to [] [0] H (fun F1 h1 hF HR1 H1 => sd_pick (hcf.symm ▸ R.mono hF) (V.can _ hg) H1) ?_))
      rintro v h1 h ⟨rfl, H1⟩ J
      have H := J H1
      refine ur_region_end ?_
      refine ur_region rfl ?_
      refine ur_opw rfl rfl rfl rfl rfl (opv_move rfl rfl ?_)
      refine ur_opw rfl rfl rfl rfl rfl (opv_arith rfl rfl rfl rfl (by first | exact wi (by omega) | rfl) ?_)
      refine ur_opw rfl rfl rfl rfl rfl (opv_assign rfl rfl ?_)
      refine ur_region_end ?_
      refine ur_inBlock ?_
      obtain ⟨k, rfl⟩ : ∃ k, n = k + 1 := ⟨n - 1, by omega⟩
      refine ur_sub (l' := [(7, .int .i64 (i + 1 : Nat)), (0, .pointer (some ⟨xb, 0, none⟩)), (1, .pointer (some ⟨sb, 0, none⟩)), (2, .int .i64 t)]) ⟨rfl, rfl, rfl, rfl, trivial⟩ ?_
      refine ih k _ _ (by omega) ⟨i + 1, (s1.pick t).1, rfl, by omega, V.pick _ _ hg, by rw [hf]; simp [Sd.finish, hc2]; omega, H⟩
    · -- no
      try simp only [decide_eq_true_eq, decide_eq_false_iff_not, Bool.not_eq_true', Bool.not_eq_false', beq_iff_eq, bne_iff_ne, beq_eq_false_iff_ne, bne_eq_false_iff_eq, ne_eq, Decidable.not_not] at hc2
      refine ur_exit rfl ?_
      repeat refine ur_seq ?_
      refine ur_region rfl ?_
      refine ur_opw rfl rfl rfl rfl rfl (opv_move rfl rfl ?_)
      refine ur_opw rfl rfl rfl rfl rfl (opv_assign rfl rfl ?_)
      refine ur_region_end ?_
      have hf1 : s1.finish n t = (s1, 0) := by cases n <;> simp [Sd.finish, hc2]
      exact ur_ret1 G Tryz.func30 rfl rfl ⟨by rw [hf, hf1]; simp, by rw [hf, hf1]; exact H⟩
  · -- no
    try simp only [decide_eq_true_eq, decide_eq_false_iff_not, Bool.not_eq_true', Bool.not_eq_false', beq_iff_eq, bne_iff_ne, beq_eq_false_iff_ne, bne_eq_false_iff_eq, ne_eq, Decidable.not_not] at hc1
    refine ur_pass rfl rfl rfl rfl ?_
    refine ur_pass rfl rfl rfl rfl ?_
    refine ur_pass rfl rfl rfl rfl ?_
    refine ur_opw rfl rfl rfl rfl rfl (opv_pick rfl rfl rfl ?_)
    refine ur_region_end ?_
    repeat refine ur_seq ?_
    refine ur_condF rfl ?_
    refine ur_exit rfl ?_
    repeat refine ur_seq ?_
    refine ur_region rfl ?_
    refine ur_opw rfl rfl rfl rfl rfl (opv_move rfl rfl ?_)
    refine ur_opw rfl rfl rfl rfl rfl (opv_assign rfl rfl ?_)
    refine ur_region_end ?_
    rw [show n = 0 from by omega] at hf
    exact ur_ret1 G Tryz.func30 rfl rfl ⟨by rw [hf]; simp [Sd.finish], by rw [hf]; simpa [Sd.finish] using H⟩
end Go.Proofs
