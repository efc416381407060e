/- Package sched: contracts. -/
import Derived.Test.YtnfcoikbkmhggaaGreatSd
set_option linter.all false
set_option linter.unusedVariables false
set_option linter.unusedSimpArgs false
namespace Go.BL
/-- Its words are there. -/
def Mc.fits (m : Mc) (len : Nat) : Prop :=
  match m with
  | .sh s => s.limit < len ∧ s.avail < len
  | .pk s => s.base < len
  | _ => True
end Go.BL
namespace Go.Proofs
open Go.BL
variable {F h : Hp} {c : Cf} {A : CA} {L : List HProp}
instance {m : Mc} : Meth Tryz.prog m.ty "Step" m.stepF := by cases m <;> simp only [Mc.ty, Mc.stepF] <;> infer_instance
instance {m : Mc} : Meth Tryz.prog m.ty "Ans" m.ansF := by cases m <;> simp only [Mc.ty, Mc.ansF] <;> infer_instance
instance {m : Mc} : HasBody Tryz.prog m.stepF := by cases m <;> simp only [Mc.stepF] <;> infer_instance
instance {m : Mc} : HasBody Tryz.prog m.ansF := by cases m <;> simp only [Mc.ansF] <;> infer_instance
theorem mc_step {m : Mc} {b mb n : Nat} {ws : List Int} (hn : n < 2 ^ 30) (hf : m.fits ws.length) (hw : ws.length < 1000) (H : Own [McR b m, MemR mb ws n] h) :
    CallS Tryz.prog F m.stepF [.pointer (some ⟨b, 0, none⟩), .pointer (some ⟨mb, 0, none⟩)].toArray h fun v h' => v = .bool (m.stepX ws).1.done ∧ Own [McR b (m.stepX ws).1, MemR mb (m.stepX ws).2 (if m.done then n else n + 1)] h' := by
  cases m with
  | sh s => exact sh_step hn hf.1 hf.2 H
  | pk s => exact pk_step hn hf hw H
  | _ => obtain ⟨_, _, _, _, o, _⟩ := H; exact o.elim

theorem pk_ans {b : Nat} {s : Pk} (H : Own [PkR b s] h) : CallS Tryz.prog F 368 [.pointer (some ⟨b, 0, none⟩)].toArray h fun v h' => v = .agg (ansv s.ans).toArray ∧ Own [PkR b s] h' := by
  refine callS_intro Tryz.func368 rfl rfl rfl fun C G => ?_
  obtain ⟨bb, xb, H⟩ := Own.ex2 H
  simp only [List.cons_append, List.nil_append] at H
  repeat refine ur_seq ?_
  refine ur_region rfl ?_
  refine ur_opw rfl rfl rfl rfl rfl (opv_alloc H rfl fun b1 h hb1 H => ?_)
  refine ur_region_end ?_
  repeat refine ur_seq ?_
  refine ur_region rfl ?_
  refine ur_opw rfl rfl rfl rfl rfl (opv_move rfl rfl ?_)
  refine ur_opw rfl rfl rfl rfl rfl (opv_nilCheck rfl rfl ?_)
  refine ur_opw rfl rfl rfl rfl rfl (opv_fieldAddr0 rfl rfl rfl ?_)
  refine ur_opw rfl rfl rfl rfl rfl (opv_loadA (by first | exact .inl (Has.has H) | exact .inr (Has.has HR)) rfl rfl ?_)
  refine ur_opw0 rfl rfl rfl rfl (opv_store H rfl rfl rfl rfl rfl rfl rfl fun h H => ?_)
  refine ur_region_end ?_
  exact ur_retA G H Tryz.func368 rfl rfl ⟨rfl, (Own.fold [1, 1, 1] H fun h H => ⟨bb, xb, H⟩).keep [0]⟩

theorem mc_ans {m : Mc} {b : Nat} (H : Own [McR b m] h) : CallS Tryz.prog F m.ansF [.pointer (some ⟨b, 0, none⟩)].toArray h fun v h' => v = .agg (ansv m.ans).toArray ∧ Own [McR b m] h' := by
  cases m with
  | sh s => exact sh_ans H
  | pk s => exact pk_ans H
  | _ => obtain ⟨_, _, _, _, o, _⟩ := H; exact o.elim

theorem th_idle_none {b n lc : Nat} {la : Option Addr} {x : Cl} {m : Mc} {mb : Nat} (H : Own (pt b (.cells (thl la n lc x (.nilIface)).toArray 96 (0, 0)) :: L) h) : CallS Tryz.prog F 67 [.pointer (some ⟨b, 0, none⟩)].toArray h fun v h' => v = .bool (decide (n = 0)) ∧ Own (pt b (.cells (thl la n lc x (.nilIface)).toArray 96 (0, 0)) :: L) h' := by
  refine callS_intro Tryz.func67 rfl rfl rfl fun C G => ?_
  repeat refine ur_seq ?_
  refine ur_region rfl ?_
  refine ur_opw rfl rfl rfl rfl rfl (opv_assign rfl rfl ?_)
  refine ur_region_end ?_
  repeat refine ur_seq ?_
  refine ur_region rfl ?_
  refine ur_opw rfl rfl rfl rfl rfl (opv_move rfl rfl ?_)
  refine ur_opw rfl rfl rfl rfl rfl (opv_nilCheck rfl rfl ?_)
  refine ur_opw rfl rfl rfl rfl rfl (opv_fieldAddr0 rfl rfl rfl ?_)
  refine ur_opw rfl rfl rfl rfl rfl (opv_load1 (by first | exact .inl (Has.has H) | exact .inr (Has.has HR)) rfl rfl rfl ?_)
  refine ur_opw rfl rfl rfl rfl rfl (opv_eqNil rfl rfl ⟨_, Tryz.underlying94, rfl⟩ rfl ?_)
  refine ur_opw rfl rfl rfl rfl rfl (opv_move rfl rfl ?_)
  refine ur_split 8 rfl (fun hc1 => ?_) (fun hc1 => ?_)
  · -- yes
    try simp only [decide_eq_true_eq, decide_eq_false_iff_not, Bool.not_eq_true', Bool.not_eq_false', beq_iff_eq, bne_iff_ne, beq_eq_false_iff_ne, bne_eq_false_iff_eq, ne_eq, Decidable.not_not] at hc1
    refine ur_opw rfl rfl rfl rfl rfl (opv_move rfl rfl ?_)
    refine ur_opw rfl rfl rfl rfl rfl (opv_nilCheck rfl rfl ?_)
    refine ur_opw rfl rfl rfl rfl rfl (opv_fieldAddr0 rfl rfl rfl ?_)
    refine ur_opw rfl rfl rfl rfl rfl (opv_load1 (by first | exact .inl (Has.has H) | exact .inr (Has.has HR)) rfl rfl rfl ?_)
    refine ur_opw rfl rfl rfl rfl rfl (opv_len rfl rfl ?_)
    refine ur_opw rfl rfl rfl rfl rfl (opv_cmp rfl rfl rfl rfl ?_)
    refine ur_opw rfl rfl rfl rfl rfl (opv_pick rfl rfl rfl ?_)
    refine ur_opw rfl rfl rfl rfl rfl (opv_assign rfl rfl ?_)
    refine ur_region_end ?_
    first | (exact absurd hc1 (by decide)) | exact ur_ret1 G Tryz.func67 rfl rfl ⟨congrArg Value.bool (by by_cases q : n = 0 <;> simp [q]), H⟩
  · -- no
    try simp only [decide_eq_true_eq, decide_eq_false_iff_not, Bool.not_eq_true', Bool.not_eq_false', beq_iff_eq, bne_iff_ne, beq_eq_false_iff_ne, bne_eq_false_iff_eq, ne_eq, Decidable.not_not] at hc1
    refine ur_pass rfl rfl rfl rfl ?_
    refine ur_pass rfl rfl rfl rfl ?_
    refine ur_pass rfl rfl rfl rfl ?_
    refine ur_pass rfl rfl rfl rfl ?_
    refine ur_pass rfl rfl rfl rfl ?_
    refine ur_pass rfl rfl rfl rfl ?_
    refine ur_opw rfl rfl rfl rfl rfl (opv_pick rfl rfl rfl ?_)
    refine ur_opw rfl rfl rfl rfl rfl (opv_assign rfl rfl ?_)
    refine ur_region_end ?_
    first | (exact absurd hc1 (by decide)) | exact ur_ret1 G Tryz.func67 rfl rfl ⟨congrArg Value.bool (by by_cases q : n = 0 <;> simp [q]), H⟩

theorem th_idle_some {b n lc : Nat} {la : Option Addr} {x : Cl} {m : Mc} {mb : Nat} (H : Own (pt b (.cells (thl la n lc x (mcV mb m)).toArray 96 (0, 0)) :: L) h) : CallS Tryz.prog F 67 [.pointer (some ⟨b, 0, none⟩)].toArray h fun v h' => v = .bool false ∧ Own (pt b (.cells (thl la n lc x (mcV mb m)).toArray 96 (0, 0)) :: L) h' := by
  refine callS_intro Tryz.func67 rfl rfl rfl fun C G => ?_
  repeat refine ur_seq ?_
  refine ur_region rfl ?_
  refine ur_opw rfl rfl rfl rfl rfl (opv_assign rfl rfl ?_)
  refine ur_region_end ?_
  repeat refine ur_seq ?_
  refine ur_region rfl ?_
  refine ur_opw rfl rfl rfl rfl rfl (opv_move rfl rfl ?_)
  refine ur_opw rfl rfl rfl rfl rfl (opv_nilCheck rfl rfl ?_)
  refine ur_opw rfl rfl rfl rfl rfl (opv_fieldAddr0 rfl rfl rfl ?_)
  refine ur_opw rfl rfl rfl rfl rfl (opv_load1 (by first | exact .inl (Has.has H) | exact .inr (Has.has HR)) rfl rfl rfl ?_)
  refine ur_opw rfl rfl rfl rfl rfl (opv_eqNil rfl rfl ⟨_, Tryz.underlying94, rfl⟩ rfl ?_)
  refine ur_opw rfl rfl rfl rfl rfl (opv_move rfl rfl ?_)
  refine ur_split 8 rfl (fun hc1 => ?_) (fun hc1 => ?_)
  · -- yes
    try simp only [decide_eq_true_eq, decide_eq_false_iff_not, Bool.not_eq_true', Bool.not_eq_false', beq_iff_eq, bne_iff_ne, beq_eq_false_iff_ne, bne_eq_false_iff_eq, ne_eq, Decidable.not_not] at hc1
    refine ur_opw rfl rfl rfl rfl rfl (opv_move rfl rfl ?_)
    refine ur_opw rfl rfl rfl rfl rfl (opv_nilCheck rfl rfl ?_)
    refine ur_opw rfl rfl rfl rfl rfl (opv_fieldAddr0 rfl rfl rfl ?_)
    refine ur_opw rfl rfl rfl rfl rfl (opv_load1 (by first | exact .inl (Has.has H) | exact .inr (Has.has HR)) rfl rfl rfl ?_)
    refine ur_opw rfl rfl rfl rfl rfl (opv_len rfl rfl ?_)
    refine ur_opw rfl rfl rfl rfl rfl (opv_cmp rfl rfl rfl rfl ?_)
    refine ur_opw rfl rfl rfl rfl rfl (opv_pick rfl rfl rfl ?_)
    refine ur_opw rfl rfl rfl rfl rfl (opv_assign rfl rfl ?_)
    refine ur_region_end ?_
    first | (exact absurd hc1 (by decide)) | exact ur_ret1 G Tryz.func67 rfl rfl ⟨rfl, H⟩
  · -- no
    try simp only [decide_eq_true_eq, decide_eq_false_iff_not, Bool.not_eq_true', Bool.not_eq_false', beq_iff_eq, bne_iff_ne, beq_eq_false_iff_ne, bne_eq_false_iff_eq, ne_eq, Decidable.not_not] at hc1
    refine ur_pass rfl rfl rfl rfl ?_
    refine ur_pass rfl rfl rfl rfl ?_
    refine ur_pass rfl rfl rfl rfl ?_
    refine ur_pass rfl rfl rfl rfl ?_
    refine ur_pass rfl rfl rfl rfl ?_
    refine ur_pass rfl rfl rfl rfl ?_
    refine ur_opw rfl rfl rfl rfl rfl (opv_pick rfl rfl rfl ?_)
    refine ur_opw rfl rfl rfl rfl rfl (opv_assign rfl rfl ?_)
    refine ur_region_end ?_
    first | (exact absurd hc1 (by decide)) | exact ur_ret1 G Tryz.func67 rfl rfl ⟨rfl, H⟩

theorem th_idle {b : Nat} {t : Th} (H : Own [ThR b t] h) : CallS Tryz.prog F 67 [.pointer (some ⟨b, 0, none⟩)].toArray h fun v h' => v = .bool t.idle ∧ Own [ThR b t] h' := by
  obtain ⟨la, lc, nv, hl, H⟩ := ThR.open H
  obtain ⟨left, what, now⟩ := t
  cases now with
  | none =>
    have e : nv = .nilIface := by obtain ⟨_, _, _, _, _, _, _, _, _, _, _, _, _, _, q, _⟩ := H; exact q
    subst e
    refine (th_idle_none (m := .pk ⟨0, false, .zero⟩) (mb := 0) H).mono ?_
    rintro v h' ⟨rfl, H⟩
    exact ⟨by cases left <;> simp [Th.idle], Own.fold (A := ThR b ⟨left, what, none⟩) [0, 0, 0] H fun h H => ⟨la, lc, _, hl, H⟩⟩
  | some m =>
    obtain ⟨mb, e⟩ : ∃ mb, nv = mcV mb m := by
      obtain ⟨_, _, _, _, ⟨mb, q, _⟩, _⟩ := H.bring [2]
      exact ⟨mb, q⟩
    subst e
    refine (th_idle_some H).mono ?_
    rintro v h' ⟨rfl, H⟩
    exact ⟨by simp [Th.idle], Own.fold (A := ThR b ⟨left, what, some m⟩) [0, 0, 0] H fun h H => ⟨la, lc, _, hl, H⟩⟩

theorem sd_tell {sb i qb ib : Nat} {bs : List Nat} {s : Sd} {t : Th} {k : Int} {a : Ans} (ht : s.ths[i]? = some t) (hn : s.n < 2 ^ 30) (he : s.evs.length < 2 ^ 30) (HR : Own [pt qb (.cells [Value.pointer (some ⟨sb, 0, none⟩)].toArray 34 (0, 0)), pt ib (.cells [Value.int .i64 i].toArray 3 (0, 0))] F) (H : Own [SdR sb A bs s] h) :
    CallS Tryz.prog F 103 [.int .i64 k, .agg (ansv a).toArray, .pointer (some ⟨qb, 0, none⟩), .pointer (some ⟨ib, 0, none⟩)].toArray h fun v h' => v = .tuple #[] ∧ Own [SdR sb A bs (s.tell i k t.what a)] h' := by
  refine callS_intro Tryz.func103 rfl rfl rfl fun C G => ?_
  obtain ⟨mb, ta, tc, ea, ec, hbl, H⟩ := SdR.open H
  have hi := (List.getElem?_eq_some_iff.1 ht).1
  obtain ⟨tb, htb, H⟩ := ThsR.take (L := [pt sb (.cells (sdl s.c A mb ta s.ths.length tc ea s.evs.length ec).toArray 92 (0, 0)), MemR mb s.ws s.n, SlR 97 1 ta s.ths.length tc (bs.map ptrV), SlR 75 10 ea s.evs.length ec (evsv s.evs)]) ht (H.bring [4])
  have hpv : (bs.map ptrV)[i]? = some (ptrV tb) := by simp [htb]
  obtain ⟨ab, aoff, pre, rest, rfl, hin, hav, H, hsh⟩ := SlR.openAt hpv (H.bring [4])
  obtain ⟨la, lc, nv, hl, H⟩ := ThR.open (H.bring [1])
  repeat refine ur_seq ?_
  refine ur_region rfl ?_
  refine ur_opw rfl rfl rfl rfl rfl (opv_box H rfl rfl fun b1 h hb1 H => ?_)
  refine ur_region_end ?_
  refine ur_draw Tryz.mixed (by kernel_rfl) ?_
  refine ud_ro [0, 0, 2, 3] [0, 1, 2, 3, 4, 5, 6, 7, 8, 11, 12, 13, 14, 15, 16, 17, 18, 19, 20, 21, 22, 23, 9, 10, 24, 25, 26] [0, 1, 2, 3, 4, 5, 6, 7, 8, 11, 12, 13, 14, 15, 16, 17, 18, 19, 20, 21, 22, 23, 10, 24] (by kernel_rfl) (by kernel_rfl) H fun F1 h hF1 HF H => ?_
  refine to_free rfl rfl rfl rfl rfl (fun _ _ hk => opv_load1 (by first | exact .inr (Has.has HF) | exact .inr (Has.has HR1) | exact .inr (Has.has (HR.mono hF1))) rfl rfl rfl hk) ?_
  refine to_free rfl rfl rfl rfl rfl (fun _ _ hk => opv_load1 (by first | exact .inr (Has.has HF) | exact .inr (Has.has HR1) | exact .inr (Has.has (HR.mono hF1))) rfl rfl rfl hk) ?_
  refine to_free rfl rfl rfl rfl rfl (fun _ _ hk => opv_nilCheck rfl rfl hk) ?_
  refine to_free rfl rfl rfl rfl rfl (fun _ _ hk => opv_fieldAddr0 rfl rfl rfl hk) ?_
  refine to_free rfl rfl rfl rfl rfl (fun _ _ hk => opv_load1 (by first | exact .inr (Has.has HF) | exact .inr (Has.has HR1) | exact .inr (Has.has (HR.mono hF1))) rfl rfl rfl hk) ?_
  refine to_free rfl rfl rfl rfl rfl (fun _ _ hk => opv_load1 (by first | exact .inr (Has.has HF) | exact .inr (Has.has HR1) | exact .inr (Has.has (HR.mono hF1))) rfl rfl rfl hk) ?_
  refine to_free rfl rfl rfl rfl rfl (fun _ _ hk => opv_nilCheck rfl rfl hk) ?_
  refine to_free rfl rfl rfl rfl rfl (fun _ _ hk => opv_fieldAddr0 rfl rfl rfl hk) ?_
  refine to_free rfl rfl rfl rfl rfl (fun _ _ hk => opv_load1 (by first | exact .inr (Has.has HF) | exact .inr (Has.has HR1) | exact .inr (Has.has (HR.mono hF1))) rfl rfl rfl hk) ?_
  refine to_free rfl rfl rfl rfl rfl (fun _ _ hk => opv_load1 (by first | exact .inr (Has.has HF) | exact .inr (Has.has HR1) | exact .inr (Has.has (HR.mono hF1))) rfl rfl rfl hk) ?_
  refine to_free rfl rfl rfl rfl rfl (fun _ _ hk => opv_move rfl rfl hk) ?_
  refine to_free rfl rfl rfl rfl rfl (fun _ _ hk => opv_load1 (by first | exact .inr (Has.has HF) | exact .inr (Has.has HR1) | exact .inr (Has.has (HR.mono hF1))) rfl rfl rfl hk) ?_
  refine to_free rfl rfl rfl rfl rfl (fun _ _ hk => opv_nilCheck rfl rfl hk) ?_
  refine to_free rfl rfl rfl rfl rfl (fun _ _ hk => opv_fieldAddr0 rfl rfl rfl hk) ?_
  refine to_free rfl rfl rfl rfl rfl (fun _ _ hk => opv_load1 (by first | exact .inr (Has.has HF) | exact .inr (Has.has HR1) | exact .inr (Has.has (HR.mono hF1))) rfl rfl rfl hk) ?_
  refine to_free rfl rfl rfl rfl rfl (fun _ _ hk => opv_load1 (by first | exact .inr (Has.has HF) | exact .inr (Has.has HR1) | exact .inr (Has.has (HR.mono hF1))) rfl rfl rfl hk) ?_
  refine to_free rfl rfl rfl rfl rfl (fun _ _ hk => opv_indexAt (r := aoff + i) rfl rfl rfl ⟨by omega, by omega⟩ (by simp) hk) ?_
  refine to_free rfl rfl rfl rfl rfl (fun _ _ hk => opv_load1 (by first | exact .inr (Has.has HF) | exact .inr (Has.has HR1) | exact .inr (Has.has (HR.mono hF1))) rfl rfl hav hk) ?_
  refine to_free rfl rfl rfl rfl rfl (fun _ _ hk => opv_nilCheck rfl rfl hk) ?_
  refine to_free rfl rfl rfl rfl rfl (fun _ _ hk => opv_fieldAddr0 rfl rfl rfl hk) ?_
  refine to_free rfl rfl rfl rfl rfl (fun _ _ hk => opv_loadA (by first | exact .inr (Has.has HF) | exact .inr (Has.has HR1) | exact .inr (Has.has (HR.mono hF1))) rfl rfl hk) ?_
  refine to_free rfl rfl rfl rfl rfl (fun _ _ hk => opv_loadA (by first | exact .inr (Has.has HF) | exact .inr (Has.has HR1) | exact .inr (Has.has (HR.mono hF1))) rfl rfl hk) ?_
  refine to_eff rfl rfl rfl rfl rfl (opv_call rfl rfl rfl (opv_to [] [3] H (fun F2 h1 hF2 HR1 H1 => have hF := Hp.le_trans hF1 hF2; mlog hn H1) ?_))
  rintro v h1 h ⟨a1, c1, lcs, rfl, H1⟩ J
  have H := J H1
  refine to_free rfl rfl rfl rfl rfl (fun _ _ hk => opv_len rfl rfl hk) ?_
  refine to_free rfl rfl rfl rfl rfl (fun _ _ hk => opv_build rfl rfl hk) ?_
  refine to_eff rfl rfl rfl rfl rfl (opv_buildSlice H rfl rfl rfl rfl rfl fun b2 h hb2 H => ?_)
  refine to_eff rfl rfl rfl rfl rfl (opv_append H rfl rfl (by first | exact .inl (Has.has H) | exact .inr (Has.has HF) | exact .inr (Has.has (HR.mono hF1))) rfl rfl (by omega) (by omega) fun a3 a3c h H => ?_)
  refine to_end fun h J => ?_
  have H := J H
  refine ud_op 27 (by kernel_rfl) (by kernel_rfl) rfl rfl rfl rfl (opv_nilCheck rfl rfl ?_)
  refine ud_op 28 (by kernel_rfl) (by kernel_rfl) rfl rfl rfl rfl (opv_fieldAddr0 rfl rfl rfl ?_)
  refine ud_op0 29 (by kernel_rfl) (by kernel_rfl) rfl rfl rfl rfl (opv_store H rfl rfl rfl rfl rfl rfl rfl fun h H => ?_)
  refine ud_end (by kernel_rfl) ?_
  refine ur_end0 G Tryz.func103 rfl ⟨rfl, ?_⟩
  have H := Own.fold (A := ThR tb t) [8, 4, 4] H fun h H => ⟨la, lc, nv, hl, H⟩
  have H := ThsR.put hbl htb (H.bring [0, 4])
  rw [set_get ht] at H
  have H := hsh (H.bring [6])
  exact (Own.fold (A := SdR sb A bs (s.tell i k t.what a)) [7, 5, 0, 1, 0] H fun h H => ⟨mb, _, tc, _, _, hbl, by simpa [Sd.tell, evsv_snoc] using H⟩).keep [0]

theorem ck_pos {c : Cf} {x : Cl} (hk : x.kind = 3 ∨ x.kind = 4 ∨ x.kind = 6) (h : c.check x = 0) : 0 ≤ x.node ∧ x.node < c.parents.length := by
  have key : c.ckNode x = 0 → 0 ≤ x.node ∧ x.node < c.parents.length := by
    intro q
    unfold Cf.ckNode at q
    split at q <;> omega
  have key2 : c.ckMoved x = 0 → 0 ≤ x.node ∧ x.node < c.parents.length := by
    intro q
    refine key ?_
    unfold Cf.ckMoved ckAmount at q
    split at q
    · omega
    · exact q
  unfold Cf.check at h
  rcases hk with e | e | e
  · exact key2 (by simpa [e] using h)
  · exact key2 (by simpa [e] using h)
  · exact key (by simpa [e] using h)

theorem sd_begin {sb i qb ib : Nat} {bs : List Nat} {s : Sd} {x : Cl} {xs : List Cl} {w0 : Cl} (o : s.c.Ok) (R : RdC F s.c A) (ht : s.ths[i]? = some ⟨x :: xs, w0, none⟩) (hn : s.n < 2 ^ 30) (he : s.evs.length < 2 ^ 29) (hk : s.c.check x = 0 → x.kind = 3 ∨ x.kind = 4 ∨ x.kind = 6)
    (HR : Own [pt qb (.cells [Value.pointer (some ⟨sb, 0, none⟩)].toArray 34 (0, 0)), pt ib (.cells [Value.int .i64 i].toArray 3 (0, 0))] F) (H : Own [SdR sb A bs s] h) :
    CallS Tryz.prog F 69 [.pointer (some ⟨sb, 0, none⟩), .int .i64 i, .func (.func 103) #[] [Value.pointer (some ⟨qb, 0, none⟩), Value.pointer (some ⟨ib, 0, none⟩)].toArray].toArray h fun v h' => if s.c.check x = 0 then v = .bool true ∧ Own [SdR sb A bs { { s with ths := s.ths.set i ⟨xs, x, none⟩ }.tell i 1 x .zero with ths := s.ths.set i ⟨xs, x, some (s.c.newMc i x)⟩ }] h' else v = .bool false ∧ Own [SdR sb A bs (({ s with ths := s.ths.set i ⟨xs, x, none⟩ }.tell i 1 x .zero).tell i 2 x ⟨s.c.check x, 0, false, 0⟩)] h' := by
  refine callS_intro Tryz.func69 rfl rfl rfl fun C G => ?_
  obtain ⟨mb, tc, ea, ec, tb, ab, aoff, pre, rest, la, lc, nv, hbl, htb, hl, hav, H, hsh⟩ := SdR.openT ht H
  have hi := (List.getElem?_eq_some_iff.1 ht).1
  obtain ⟨lb, loff, lpre, lrest, rfl, hlp, H⟩ := LfR.open1 (H.bring [1])
  have g3 := get3 (xs := xs) (x := x) (rest := lrest) hlp
  repeat refine ur_seq ?_
  refine ur_region rfl ?_
  refine ur_opw rfl rfl rfl rfl rfl (opv_assign rfl rfl ?_)
  refine ur_region_end ?_
  repeat refine ur_seq ?_
  refine ur_region rfl ?_
  refine ur_opw rfl rfl rfl rfl rfl (opv_move rfl rfl ?_)
  refine ur_opw rfl rfl rfl rfl rfl (opv_nilCheck rfl rfl ?_)
  refine ur_opw rfl rfl rfl rfl rfl (opv_fieldAddr0 rfl rfl rfl ?_)
  refine ur_opw rfl rfl rfl rfl rfl (opv_load1 (by first | exact .inl (Has.has H) | exact .inr (Has.has HR)) rfl rfl rfl ?_)
  refine ur_opw rfl rfl rfl rfl rfl (opv_move rfl rfl ?_)
  refine ur_opw rfl rfl rfl rfl rfl (opv_indexAt (r := aoff + i) rfl rfl rfl ⟨by omega, by omega⟩ (by simp) ?_)
  refine ur_opw rfl rfl rfl rfl rfl (opv_load1 (by first | exact .inl (Has.has H) | exact .inr (Has.has HR)) rfl rfl hav ?_)
  refine ur_opw rfl rfl rfl rfl rfl (opv_assign rfl rfl ?_)
  refine ur_region_end ?_
  repeat refine ur_seq ?_
  refine ur_draw Tryz.mixed (by kernel_rfl) ?_
  refine ud_roQ (fun h => CellAt h tb 0 (.slice (some ⟨lb, loff, none⟩) (xs.length + 1) lc)) [0] [0, 1, 2, 3, 4, 5, 6, 7, 8, 9, 10, 11, 12, 13, 14, 15] [0, 1, 2, 3, 4, 5, 6, 7, 8, 9, 10, 11, 12, 13, 14] (by kernel_rfl) (by kernel_rfl) H fun F1 h hF1 HF H => ⟨⟨_, _, _, Has.has H, rfl⟩, ?_⟩
  refine to_free rfl rfl rfl rfl rfl (fun _ _ hk => opv_move rfl rfl hk) ?_
  refine to_free rfl rfl rfl rfl rfl (fun _ _ hk => opv_move rfl rfl hk) ?_
  refine to_free rfl rfl rfl rfl rfl (fun _ _ hk => opv_move rfl rfl hk) ?_
  refine to_free rfl rfl rfl rfl rfl (fun _ _ hk => opv_nilCheck rfl rfl hk) ?_
  refine to_free rfl rfl rfl rfl rfl (fun _ _ hk => opv_fieldAddr0 rfl rfl rfl hk) ?_
  refine to_freeQ rfl rfl rfl rfl rfl (fun _ _ hq hk => opv_loadQ (hq) rfl rfl hk) ?_
  refine to_free rfl rfl rfl rfl rfl (fun _ _ hk => opv_indexAt (r := loff) rfl rfl rfl ⟨by omega, by omega⟩ (by simp) hk) ?_
  refine to_free rfl rfl rfl rfl rfl (fun _ _ hk => opv_loadA (g := g3) (.inr (Has.has HF)) rfl rfl hk) ?_
  refine to_free rfl rfl rfl rfl rfl (fun _ _ hk => opv_move rfl rfl hk) ?_
  refine to_free rfl rfl rfl rfl rfl (fun _ _ hk => opv_nilCheck rfl rfl hk) ?_
  refine to_free rfl rfl rfl rfl rfl (fun _ _ hk => opv_fieldAddr0 rfl rfl rfl hk) ?_
  refine to_freeQ rfl rfl rfl rfl rfl (fun _ _ hq hk => opv_loadQ (hq) rfl rfl hk) ?_
  refine to_free rfl rfl rfl rfl rfl (fun _ _ hk => opv_sliceFrom rfl rfl rfl ⟨by omega, by omega⟩ hk) ?_
  refine to_free rfl rfl rfl rfl rfl (fun _ _ hk => opv_nilCheck rfl rfl hk) ?_
  refine to_free rfl rfl rfl rfl rfl (fun _ _ hk => opv_fieldAddr0 rfl rfl rfl hk) ?_
  refine to_effQ0 rfl rfl rfl rfl rfl (opv_store H rfl rfl rfl rfl rfl rfl rfl fun h H => ?_)
  refine ⟨⟨_, _, _, Has.has H, rfl⟩, ?_⟩
  refine to_end fun h J => ?_
  have H := J H
  refine ud_op 16 (by kernel_rfl) (by kernel_rfl) rfl rfl rfl rfl (opv_nilCheck rfl rfl ?_)
  refine ud_op 17 (by kernel_rfl) (by kernel_rfl) rfl rfl rfl rfl (opv_fieldAddr0 rfl rfl rfl ?_)
  refine ud_op0 18 (by kernel_rfl) (by kernel_rfl) rfl rfl rfl rfl (opv_store H rfl rfl rfl rfl rfl rfl rfl fun h H => ?_)
  refine ud_end (by kernel_rfl) ?_
  repeat refine ur_seq ?_
  refine ur_region rfl ?_
  refine ur_opw rfl rfl rfl rfl rfl (opv_move rfl rfl ?_)
  refine ur_opw rfl rfl rfl rfl rfl (opv_build rfl rfl ?_)
  have HL : Own [LfR (some ⟨lb, if lc = 1 then loff else loff + 1 * 3, none⟩) (clsv xs), pt tb (.cells (thl (some ⟨lb, if lc = 1 then loff else loff + 1 * 3, none⟩) xs.length (lc - 1) x nv).toArray 96 (0, 0)), NowR nv none, ThsR (bs.eraseIdx i) (s.ths.eraseIdx i), pt sb (.cells (sdl s.c A mb (some ⟨ab, aoff, none⟩) s.ths.length tc ea s.evs.length ec).toArray 92 (0, 0)), MemR mb s.ws s.n, pt ab (.cells (pre ++ (bs.map ptrV ++ rest)).toArray 97 (0, 0)), SlR 75 10 ea s.evs.length ec (evsv s.evs)] h := by
    have H := H.bring [7]
    by_cases q : lc = 1
    · have hx : xs = [] := by apply List.length_eq_zero_iff.1; simp only [List.length_cons] at hl; omega
      subst hx
      rw [if_pos q]
      rw [show (if lc = Int.toNat 1 then loff else loff + Int.toNat 1 * 3) = loff from if_pos q] at H
      exact LfR.shut (pre' := lpre) (cs' := []) (rest' := clv x ++ lrest) (by simp [clsv]) hlp H
    · rw [if_neg q]
      rw [show (if lc = Int.toNat 1 then loff else loff + Int.toNat 1 * 3) = loff + 1 * 3 from if_neg q] at H
      exact LfR.shut (pre' := lpre ++ clv x) (cs' := clsv xs) (rest' := lrest) (by simp [clsv]) (by simp [hlp]) H
  clear H
  have H := SdR.close (lc := lc - 1) (t := ⟨xs, x, none⟩) (i := i) hbl htb (by simp only [List.length_cons] at hl ⊢; omega) (Own.bring [0, 1] (hsh (HL.bring [6])))
  clear HL
  have ht1 : (s.ths.set i ⟨xs, x, none⟩)[i]? = some ⟨xs, x, none⟩ := by simp [hi]
  generalize hs1 : ({ s with ths := s.ths.set i ⟨xs, x, none⟩ } : Sd) = s1 at H
  have hc1 : s1.c = s.c := by rw [← hs1]
  have hn1 : s1.n = s.n := by rw [← hs1]
  have he1 : s1.evs = s.evs := by rw [← hs1]
  have ht1 : s1.ths[i]? = some ⟨xs, x, none⟩ := by rw [← hs1]; exact ht1
  refine ur_opw rfl rfl rfl rfl rfl (opv_call rfl rfl rfl (opv_to [] [0] H (fun F1 h1 hF HR1 H1 => sd_tell (k := 1) (a := .zero) ht1 (by rw [hn1]; exact hn) (by rw [he1]; omega) (HR.mono hF) H1) ?_))
  rintro v h1 h ⟨rfl, H1⟩ J
  have H := J H1
  refine ur_region_end ?_
  repeat refine ur_seq ?_
  have ht2 : (s1.tell i 1 x .zero).ths[i]? = some ⟨xs, x, none⟩ := ht1
  have hc2 : (s1.tell i 1 x .zero).c = s.c := hc1
  have hn2 : (s1.tell i 1 x .zero).n = s.n := hn1
  have he2 : (s1.tell i 1 x .zero).evs.length = s.evs.length + 1 := by simp [Sd.tell, he1]
  generalize hs2 : s1.tell i 1 x .zero = s2 at H ht2 hc2 hn2 he2
  obtain ⟨mb2, tc2, ea2, ec2, tb2, ab2, aoff2, pre2, rest2, la2, lc2, nv2, hbl2, htb2, hl2, hav2, H, hsh2⟩ := SdR.openT ht2 H
  have e3 : tb2 = tb := by have q := htb2; rw [htb] at q; injection q with q; exact q.symm
  rw [e3] at H
  have o2 : s2.c.Ok := hc2.symm ▸ o
  have R2 : RdC F s2.c A := hc2.symm ▸ R
  refine ur_draw Tryz.mixed (by kernel_rfl) ?_
  refine ud_all [0, 1, 2, 3, 4, 5, 6, 7] (by kernel_rfl) (by kernel_rfl) H fun F1 hF1 HF => ?_
  refine to_free rfl rfl rfl rfl rfl (fun _ _ hk => opv_move rfl rfl hk) ?_
  refine to_free rfl rfl rfl rfl rfl (fun _ _ hk => opv_nilCheck rfl rfl hk) ?_
  refine to_free rfl rfl rfl rfl rfl (fun _ _ hk => opv_fieldAddr0 rfl rfl rfl hk) ?_
  refine to_free rfl rfl rfl rfl rfl (fun _ _ hk => opv_loadA (by first | exact .inr (Has.has HF) | exact .inr (Has.has HR1) | exact .inr (Has.has (HR.mono hF1))) rfl rfl hk) ?_
  refine to_free rfl rfl rfl rfl rfl (fun _ _ hk => opv_move rfl rfl hk) ?_
  refine to_free rfl rfl rfl rfl rfl (fun _ _ hk => opv_nilCheck rfl rfl hk) ?_
  refine to_free rfl rfl rfl rfl rfl (fun _ _ hk => opv_fieldAddr0 rfl rfl rfl hk) ?_
  refine to_free rfl rfl rfl rfl rfl (fun _ _ hk => opv_loadA (by first | exact .inr (Has.has HF) | exact .inr (Has.has HR1) | exact .inr (Has.has (HR.mono hF1))) rfl rfl hk) ?_
  refine to_end ?_
  refine ud_op 8 (by kernel_rfl) (by kernel_rfl) rfl rfl rfl rfl (opv_call rfl rfl rfl (opv_to [] [] H (fun F1 h1 hF HR1 H1 => ck_check o2 (R2.mono hF)) ?_))
  rintro v h1 h ⟨rfl⟩ J
  have H := J (LN := []) trivial
  refine ud_op 9 (by kernel_rfl) (by kernel_rfl) rfl rfl rfl rfl (opv_assign rfl rfl ?_)
  refine ud_end (by kernel_rfl) ?_
  repeat refine ur_seq ?_
  refine ur_region rfl ?_
  refine ur_opw rfl rfl rfl rfl rfl (opv_move rfl rfl ?_)
  refine ur_opw rfl rfl rfl rfl rfl (opv_cmp rfl rfl rfl rfl ?_)
  refine ur_region_end ?_
  repeat refine ur_seq ?_
  refine ur_cond rfl (fun hc1 => ?_) (fun hc1 => ?_)
  · -- yes
    try simp only [decide_eq_true_eq, decide_eq_false_iff_not, Bool.not_eq_true', Bool.not_eq_false', beq_iff_eq, bne_iff_ne, beq_eq_false_iff_ne, bne_eq_false_iff_eq, ne_eq, Decidable.not_not] at hc1
    rw [hc2] at hc1
    have H := SdR.close (t := ⟨xs, x, none⟩) (i := i) hbl2 htb hl2 (hsh2 (H.bring [6]))
    have ht3 : (s2.ths.set i ⟨xs, x, none⟩)[i]? = some ⟨xs, x, none⟩ := by rw [set_get ht2]; exact ht2
    have e4 : ({ s2 with ths := s2.ths.set i ⟨xs, x, none⟩ } : Sd) = s2 := by rw [set_get ht2]
    rw [e4] at H
    repeat refine ur_seq ?_
    refine ur_region rfl ?_
    refine ur_opw rfl rfl rfl rfl rfl (opv_move rfl rfl ?_)
    refine ur_opw rfl rfl rfl rfl rfl (opv_move rfl rfl ?_)
    refine ur_opw rfl rfl rfl rfl rfl (opv_build rfl rfl ?_)
    refine ur_opw rfl rfl rfl rfl rfl (opv_call rfl rfl rfl (opv_to [] [0] H (fun F1 h1 hF HR1 H1 => sd_tell (k := 2) (a := ⟨s2.c.check x, 0, false, 0⟩) ht2 (by rw [hn2]; exact hn) (by rw [he2]; omega) (HR.mono hF) H1) ?_))
    rintro v h1 h ⟨rfl, H1⟩ J
    have H := J H1
    refine ur_region_end ?_
    repeat refine ur_seq ?_
    refine ur_region rfl ?_
    refine ur_opw rfl rfl rfl rfl rfl (opv_assign rfl rfl ?_)
    refine ur_region_end ?_
    exact ur_ret1 G Tryz.func69 rfl rfl (by
      rw [if_neg hc1]
      refine ⟨rfl, ?_⟩
      subst hs2 hs1
      exact H.keep [0])
  · -- no
    try simp only [decide_eq_true_eq, decide_eq_false_iff_not, Bool.not_eq_true', Bool.not_eq_false', beq_iff_eq, bne_iff_ne, beq_eq_false_iff_ne, bne_eq_false_iff_eq, ne_eq, Decidable.not_not] at hc1
    rw [hc2] at hc1
    refine ur_skip ?_
    repeat refine ur_seq ?_
    refine ur_draw Tryz.mixed (by kernel_rfl) ?_
    refine ud_ro [0, 3] [0, 1, 2, 3, 4, 5, 6, 7, 8, 9, 10] [0, 1, 2, 3, 4, 5, 6, 7, 8, 9] (by kernel_rfl) (by kernel_rfl) H fun F1 h hF1 HF H => ?_
    refine to_free rfl rfl rfl rfl rfl (fun _ _ hk => opv_move rfl rfl hk) ?_
    refine to_free rfl rfl rfl rfl rfl (fun _ _ hk => opv_move rfl rfl hk) ?_
    refine to_free rfl rfl rfl rfl rfl (fun _ _ hk => opv_nilCheck rfl rfl hk) ?_
    refine to_free rfl rfl rfl rfl rfl (fun _ _ hk => opv_fieldAddr0 rfl rfl rfl hk) ?_
    refine to_free rfl rfl rfl rfl rfl (fun _ _ hk => opv_loadA (by first | exact .inr (Has.has HF) | exact .inr (Has.has HR1) | exact .inr (Has.has (HR.mono hF1))) rfl rfl hk) ?_
    refine to_free rfl rfl rfl rfl rfl (fun _ _ hk => opv_move rfl rfl hk) ?_
    refine to_free rfl rfl rfl rfl rfl (fun _ _ hk => opv_move rfl rfl hk) ?_
    refine to_free rfl rfl rfl rfl rfl (fun _ _ hk => opv_nilCheck rfl rfl hk) ?_
    refine to_free rfl rfl rfl rfl rfl (fun _ _ hk => opv_fieldAddr0 rfl rfl rfl hk) ?_
    refine to_free rfl rfl rfl rfl rfl (fun _ _ hk => opv_loadA (by first | exact .inr (Has.has HF) | exact .inr (Has.has HR1) | exact .inr (Has.has (HR.mono hF1))) rfl rfl hk) ?_
    refine to_eff rfl rfl rfl rfl rfl (opv_call rfl rfl rfl (opv_to [] [] H (fun F2 h1 hF2 HR1 H1 => have hF := Hp.le_trans hF1 hF2; ck_new (x := x) o2 (t := i) (hk hc1) (ck_pos (c := s2.c) (x := x) (hk hc1) (by rw [hc2]; exact hc1)).1 (ck_pos (c := s2.c) (x := x) (hk hc1) (by rw [hc2]; exact hc1)).2) ?_))
    rintro v h1 h ⟨mcb, rfl, H1⟩ J
    have H := J H1
    refine to_end fun h J => ?_
    have H := J H
    refine ud_op 11 (by kernel_rfl) (by kernel_rfl) rfl rfl rfl rfl (opv_nilCheck rfl rfl ?_)
    refine ud_op 12 (by kernel_rfl) (by kernel_rfl) rfl rfl rfl rfl (opv_fieldAddr0 rfl rfl rfl ?_)
    refine ud_op0 13 (by kernel_rfl) (by kernel_rfl) rfl rfl rfl rfl (opv_store H rfl rfl rfl rfl rfl rfl rfl fun h H => ?_)
    refine ud_end (by kernel_rfl) ?_
    repeat refine ur_seq ?_
    refine ur_region rfl ?_
    refine ur_opw rfl rfl rfl rfl rfl (opv_assign rfl rfl ?_)
    refine ur_region_end ?_
    have H := Own.fold (A := NowR (mcV mcb (s2.c.newMc i x)) (some (s2.c.newMc i x))) [0] H fun h H => (by
      obtain ⟨h1, h2, d, l, o1, o2⟩ := H
      exact ⟨mcb, rfl, McR.mono (Hp.le_trans (Hp.le_un_l _ _) l) o1⟩)
    have H := SdR.close (t := ⟨xs, x, some (s2.c.newMc i x)⟩) (i := i) hbl2 htb hl2 (Own.bring [0, 6, 1, 0, 1, 3, 1, 1] (hsh2 (H.bring [5])))
    exact ur_ret1 G Tryz.func69 rfl rfl (by
      rw [if_pos hc1]
      refine ⟨rfl, ?_⟩
      subst hs2 hs1
      simpa [Sd.tell] using H.keep [0])
end Go.Proofs
