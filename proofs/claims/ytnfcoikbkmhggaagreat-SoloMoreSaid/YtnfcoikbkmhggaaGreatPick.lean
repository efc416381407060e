/- Package sched: Pick, New, Run. -/
import Derived.Test.YtnfcoikbkmhggaaGreatLaw
set_option linter.all false
set_option linter.unusedVariables false
set_option linter.unusedSimpArgs false
namespace Go.Proofs
open Go.BL
variable {F h : Hp} {c : Cf} {A : CA} {L : List HProp}
theorem SdR.openI {sb i : Nat} {bs : List Nat} {s : Sd} {t : Th} (ht : s.ths[i]? = some t) (H : Own (SdR sb A bs s :: L) h) : ∃ (mb tc : Nat) (ea : Option Addr) (ec : Nat) (tb ab aoff : Nat) (pre rest : List Value),
    bs.length = s.ths.length ∧ bs[i]? = some tb ∧ (pre ++ (bs.map ptrV ++ rest))[aoff + i]? = some (ptrV tb) ∧
    Own (ThR tb t :: ThsR (bs.eraseIdx i) (s.ths.eraseIdx i) ::
      pt sb (.cells (sdl s.c A mb (some ⟨ab, aoff, none⟩) s.ths.length tc ea s.evs.length ec).toArray 92 (0, 0)) :: MemR mb s.ws s.n :: pt ab (.cells (pre ++ (bs.map ptrV ++ rest)).toArray 97 (0, 0)) :: SlR 75 10 ea s.evs.length ec (evsv s.evs) :: L) h ∧
    ∀ {L' : List HProp} {h' : Hp}, Own (pt ab (.cells (pre ++ (bs.map ptrV ++ rest)).toArray 97 (0, 0)) :: L') h' → Own (SlR 97 1 (some ⟨ab, aoff, none⟩) s.ths.length tc (bs.map ptrV) :: L') h' := by
  obtain ⟨mb, tc, ea, ec, tb, ab, aoff, pre, rest, la, lc, nv, hbl, htb, hl, hav, H, hsh⟩ := SdR.openT ht H
  exact ⟨mb, tc, ea, ec, tb, ab, aoff, pre, rest, hbl, htb, hav, Own.fold (A := ThR tb t) [0, 0, 0] H fun h H => ⟨la, lc, nv, hl, H⟩, hsh⟩
theorem SdR.closeI {sb mb i tb tc ec : Nat} {ta ea : Option Addr} {bs : List Nat} {s : Sd} {t : Th} (hbl : bs.length = s.ths.length) (htb : bs[i]? = some tb)
    (H : Own (SlR 97 1 ta s.ths.length tc (bs.map ptrV) :: ThR tb t :: ThsR (bs.eraseIdx i) (s.ths.eraseIdx i) ::
      pt sb (.cells (sdl s.c A mb ta s.ths.length tc ea s.evs.length ec).toArray 92 (0, 0)) :: MemR mb s.ws s.n :: SlR 75 10 ea s.evs.length ec (evsv s.evs) :: L) h) : Own (SdR sb A bs { s with ths := s.ths.set i t } :: L) h := by
  have H := ThsR.put hbl htb (H.bring [1, 1])
  exact Own.fold (A := SdR sb A bs { s with ths := s.ths.set i t }) [2, 2, 1, 1, 0] H fun h H => ⟨mb, ta, tc, ea, ec, by simpa using hbl, by simpa using H⟩
theorem SdR.closeI0 {sb mb i tb tc ec : Nat} {ta ea : Option Addr} {bs : List Nat} {s : Sd} {t : Th} (ht : s.ths[i]? = some t) (hbl : bs.length = s.ths.length) (htb : bs[i]? = some tb)
    (H : Own (SlR 97 1 ta s.ths.length tc (bs.map ptrV) :: ThR tb t :: ThsR (bs.eraseIdx i) (s.ths.eraseIdx i) ::
      pt sb (.cells (sdl s.c A mb ta s.ths.length tc ea s.evs.length ec).toArray 92 (0, 0)) :: MemR mb s.ws s.n :: SlR 75 10 ea s.evs.length ec (evsv s.evs) :: L) h) : Own (SdR sb A bs s :: L) h := by
  have := SdR.closeI hbl htb H
  rwa [set_get ht] at this
theorem NowR.open1 {nv : Value} {m : Mc} (H : Own (NowR nv (some m) :: L) h) : ∃ mcb, nv = mcV mcb m ∧ Own (McR mcb m :: L) h := by
  obtain ⟨h1, h2, d, l, ⟨mcb, e, o1⟩, o2⟩ := H
  exact ⟨mcb, e, h1, h2, d, l, o1, o2⟩
theorem NowR.shut1 {m : Mc} {mcb : Nat} (H : Own (McR mcb m :: L) h) : Own (NowR (mcV mcb m) (some m) :: L) h := by
  obtain ⟨h1, h2, d, l, o1, o2⟩ := H
  exact ⟨h1, h2, d, l, ⟨mcb, rfl, o1⟩, o2⟩

theorem sd_pick_out {sb : Nat} {i : Int} {bs : List Nat} {s : Sd} (hi : i < 0 ∨ (s.ths.length : Int) ≤ i) (H : Own [SdR sb A bs s] h) : CallS Tryz.prog F 32 [.pointer (some ⟨sb, 0, none⟩), .int .i64 i].toArray h fun v h' => v = .bool false ∧ Own [SdR sb A bs s] h' := by
  refine callS_intro Tryz.func32 rfl rfl rfl fun C G => ?_
  obtain ⟨mb, ta, tc, ea, ec, hbl, H⟩ := SdR.open H
  repeat refine ur_seq ?_
  refine ur_region rfl ?_
  refine ur_opw rfl rfl rfl rfl rfl (opv_assign rfl rfl ?_)
  refine ur_region_end ?_
  repeat refine ur_seq ?_
  refine ur_region rfl ?_
  refine ur_opw rfl rfl rfl rfl rfl (opv_move rfl rfl ?_)
  refine ur_opw rfl rfl rfl rfl rfl (opv_cmp rfl rfl rfl rfl ?_)
  refine ur_opw rfl rfl rfl rfl rfl (opv_move rfl rfl ?_)
  refine ur_split 9 rfl (fun hc1 => ?_) (fun hc1 => ?_)
  · -- yes
    try simp only [decide_eq_true_eq, decide_eq_false_iff_not, Bool.not_eq_true', Bool.not_eq_false', beq_iff_eq, bne_iff_ne, beq_eq_false_iff_ne, bne_eq_false_iff_eq, ne_eq, Decidable.not_not] at hc1
    refine ur_pass rfl rfl rfl rfl ?_
    refine ur_pass rfl rfl rfl rfl ?_
    refine ur_pass rfl rfl rfl rfl ?_
    refine ur_pass rfl rfl rfl rfl ?_
    refine ur_pass rfl rfl rfl rfl ?_
    refine ur_pass rfl rfl rfl rfl ?_
    refine ur_pass rfl rfl rfl rfl ?_
    refine ur_opw rfl rfl rfl rfl rfl (opv_pick rfl rfl rfl ?_)
    refine ur_opw rfl rfl rfl rfl rfl (opv_move rfl rfl ?_)
    refine ur_pass rfl rfl rfl rfl ?_
    refine ur_pass rfl rfl rfl rfl ?_
    refine ur_pass rfl rfl rfl rfl ?_
    refine ur_pass rfl rfl rfl rfl ?_
    refine ur_pass rfl rfl rfl rfl ?_
    refine ur_pass rfl rfl rfl rfl ?_
    refine ur_pass rfl rfl rfl rfl ?_
    refine ur_pass rfl rfl rfl rfl ?_
    refine ur_opw rfl rfl rfl rfl rfl (opv_pick rfl rfl rfl ?_)
    refine ur_region_end ?_
    repeat refine ur_seq ?_
    refine ur_condT rfl ?_
    repeat refine ur_seq ?_
    refine ur_region rfl ?_
    refine ur_opw rfl rfl rfl rfl rfl (opv_assign rfl rfl ?_)
    refine ur_region_end ?_
    exact ur_ret1 G Tryz.func32 rfl rfl ⟨rfl, Own.fold (A := SdR sb A bs s) [0, 0, 0, 0, 0] H fun h H => ⟨mb, ta, tc, ea, ec, hbl, H⟩⟩
  · -- no
    try simp only [decide_eq_true_eq, decide_eq_false_iff_not, Bool.not_eq_true', Bool.not_eq_false', beq_iff_eq, bne_iff_ne, beq_eq_false_iff_ne, bne_eq_false_iff_eq, ne_eq, Decidable.not_not] at hc1
    refine ur_opw rfl rfl rfl rfl rfl (opv_move rfl rfl ?_)
    refine ur_opw rfl rfl rfl rfl rfl (opv_move rfl rfl ?_)
    refine ur_opw rfl rfl rfl rfl rfl (opv_nilCheck rfl rfl ?_)
    refine ur_opw rfl rfl rfl rfl rfl (opv_fieldAddr0 rfl rfl rfl ?_)
    refine ur_opw rfl rfl rfl rfl rfl (opv_load1 (by first | exact .inl (Has.has H) | exact .inr (Has.has HR)) rfl rfl rfl ?_)
    refine ur_opw rfl rfl rfl rfl rfl (opv_len rfl rfl ?_)
    refine ur_opw rfl rfl rfl rfl rfl (opv_cmp rfl rfl rfl rfl ?_)
    refine ur_opw rfl rfl rfl rfl rfl (opv_pick rfl rfl rfl ?_)
    refine ur_opw rfl rfl rfl rfl rfl (opv_move rfl rfl ?_)
    refine ur_split 18 rfl (fun hc2 => ?_) (fun hc2 => ?_)
    · -- yes
      try simp only [decide_eq_true_eq, decide_eq_false_iff_not, Bool.not_eq_true', Bool.not_eq_false', beq_iff_eq, bne_iff_ne, beq_eq_false_iff_ne, bne_eq_false_iff_eq, ne_eq, Decidable.not_not] at hc2
      refine ur_pass rfl rfl rfl rfl ?_
      refine ur_pass rfl rfl rfl rfl ?_
      refine ur_pass rfl rfl rfl rfl ?_
      refine ur_pass rfl rfl rfl rfl ?_
      refine ur_pass rfl rfl rfl rfl ?_
      refine ur_pass rfl rfl rfl rfl ?_
      refine ur_pass rfl rfl rfl rfl ?_
      refine ur_pass rfl rfl rfl rfl ?_
      refine ur_opw rfl rfl rfl rfl rfl (opv_pick rfl rfl rfl ?_)
      refine ur_region_end ?_
      repeat refine ur_seq ?_
      refine ur_condT rfl ?_
      repeat refine ur_seq ?_
      refine ur_region rfl ?_
      refine ur_opw rfl rfl rfl rfl rfl (opv_assign rfl rfl ?_)
      refine ur_region_end ?_
      exact ur_ret1 G Tryz.func32 rfl rfl ⟨rfl, Own.fold (A := SdR sb A bs s) [0, 0, 0, 0, 0] H fun h H => ⟨mb, ta, tc, ea, ec, hbl, H⟩⟩
    · -- no
      try simp only [decide_eq_true_eq, decide_eq_false_iff_not, Bool.not_eq_true', Bool.not_eq_false', beq_iff_eq, bne_iff_ne, beq_eq_false_iff_ne, bne_eq_false_iff_eq, ne_eq, Decidable.not_not] at hc2
      refine ur_opw rfl rfl rfl rfl rfl (opv_move rfl rfl ?_)
      refine ur_opw rfl rfl rfl rfl rfl (opv_nilCheck rfl rfl ?_)
      refine ur_opw rfl rfl rfl rfl rfl (opv_fieldAddr0 rfl rfl rfl ?_)
      refine ur_opw rfl rfl rfl rfl rfl (opv_load1 (by first | exact .inl (Has.has H) | exact .inr (Has.has HR)) rfl rfl rfl ?_)
      refine ur_opw rfl rfl rfl rfl rfl (opv_move rfl rfl ?_)
      exfalso; omega

theorem sd_pick_idle {sb i : Nat} {bs : List Nat} {s : Sd} {t : Th} (ht : s.ths[i]? = some t) (hid : t.idle = true) (H : Own [SdR sb A bs s] h) : CallS Tryz.prog F 32 [.pointer (some ⟨sb, 0, none⟩), .int .i64 i].toArray h fun v h' => v = .bool false ∧ Own [SdR sb A bs s] h' := by
  refine callS_intro Tryz.func32 rfl rfl rfl fun C G => ?_
  obtain ⟨mb, tc, ea, ec, tb, ab, aoff, pre, rest, hbl, htb, hav, H, hsh⟩ := SdR.openI ht H
  have hi := (List.getElem?_eq_some_iff.1 ht).1
  repeat refine ur_seq ?_
  refine ur_region rfl ?_
  refine ur_opw rfl rfl rfl rfl rfl (opv_assign rfl rfl ?_)
  refine ur_region_end ?_
  repeat refine ur_seq ?_
  refine ur_region rfl ?_
  refine ur_opw rfl rfl rfl rfl rfl (opv_move rfl rfl ?_)
  refine ur_opw rfl rfl rfl rfl rfl (opv_cmp rfl rfl rfl rfl ?_)
  refine ur_opw rfl rfl rfl rfl rfl (opv_move rfl rfl ?_)
  refine ur_split 9 rfl (fun hc1 => ?_) (fun hc1 => ?_)
  · -- yes
    try simp only [decide_eq_true_eq, decide_eq_false_iff_not, Bool.not_eq_true', Bool.not_eq_false', beq_iff_eq, bne_iff_ne, beq_eq_false_iff_ne, bne_eq_false_iff_eq, ne_eq, Decidable.not_not] at hc1
    exfalso; omega
  · -- no
    try simp only [decide_eq_true_eq, decide_eq_false_iff_not, Bool.not_eq_true', Bool.not_eq_false', beq_iff_eq, bne_iff_ne, beq_eq_false_iff_ne, bne_eq_false_iff_eq, ne_eq, Decidable.not_not] at hc1
    refine ur_opw rfl rfl rfl rfl rfl (opv_move rfl rfl ?_)
    refine ur_opw rfl rfl rfl rfl rfl (opv_move rfl rfl ?_)
    refine ur_opw rfl rfl rfl rfl rfl (opv_nilCheck rfl rfl ?_)
    refine ur_opw rfl rfl rfl rfl rfl (opv_fieldAddr0 rfl rfl rfl ?_)
    refine ur_opw rfl rfl rfl rfl rfl (opv_load1 (by first | exact .inl (Has.has H) | exact .inr (Has.has HR)) rfl rfl rfl ?_)
    refine ur_opw rfl rfl rfl rfl rfl (opv_len rfl rfl ?_)
    refine ur_opw rfl rfl rfl rfl rfl (opv_cmp rfl rfl rfl rfl ?_)
    refine ur_opw rfl rfl rfl rfl rfl (opv_pick rfl rfl rfl ?_)
    refine ur_opw rfl rfl rfl rfl rfl (opv_move rfl rfl ?_)
    refine ur_split 18 rfl (fun hc2 => ?_) (fun hc2 => ?_)
    · -- yes
      try simp only [decide_eq_true_eq, decide_eq_false_iff_not, Bool.not_eq_true', Bool.not_eq_false', beq_iff_eq, bne_iff_ne, beq_eq_false_iff_ne, bne_eq_false_iff_eq, ne_eq, Decidable.not_not] at hc2
      exfalso; omega
    · -- no
      try simp only [decide_eq_true_eq, decide_eq_false_iff_not, Bool.not_eq_true', Bool.not_eq_false', beq_iff_eq, bne_iff_ne, beq_eq_false_iff_ne, bne_eq_false_iff_eq, ne_eq, Decidable.not_not] at hc2
      refine ur_opw rfl rfl rfl rfl rfl (opv_move rfl rfl ?_)
      refine ur_opw rfl rfl rfl rfl rfl (opv_nilCheck rfl rfl ?_)
      refine ur_opw rfl rfl rfl rfl rfl (opv_fieldAddr0 rfl rfl rfl ?_)
      refine ur_opw rfl rfl rfl rfl rfl (opv_load1 (by first | exact .inl (Has.has H) | exact .inr (Has.has HR)) rfl rfl rfl ?_)
      refine ur_opw rfl rfl rfl rfl rfl (opv_move rfl rfl ?_)
      refine ur_opw rfl rfl rfl rfl rfl (opv_indexAt (r := aoff + i) rfl rfl rfl ⟨by omega, by omega⟩ (by simp) ?_)
      refine ur_opw rfl rfl rfl rfl rfl (opv_load1 (by first | exact .inl (Has.has H) | exact .inr (Has.has HR)) rfl rfl hav ?_)
      refine ur_opw rfl rfl rfl rfl rfl (opv_call rfl rfl rfl (opv_to [] [0] H (fun F1 h1 hF HR1 H1 => th_idle H1) ?_))
      rintro v h1 h ⟨rfl, H1⟩ J
      have H := J H1
      refine ur_opw rfl rfl rfl rfl rfl (opv_pick rfl rfl rfl ?_)
      refine ur_region_end ?_
      repeat refine ur_seq ?_
      rw [hid]
      refine ur_condT rfl ?_
      repeat refine ur_seq ?_
      refine ur_region rfl ?_
      refine ur_opw rfl rfl rfl rfl rfl (opv_assign rfl rfl ?_)
      refine ur_region_end ?_
      exact ur_ret1 G Tryz.func32 rfl rfl ⟨rfl, SdR.closeI0 ht hbl htb (hsh (H.bring [4]))⟩

theorem sd_pick_some0 {sb i : Nat} {bs : List Nat} {s : Sd} {t : Th} {m : Mc} (ht : s.ths[i]? = some t) (hm6 : t.now = some m) (hn6 : s.n < 2 ^ 29) (he6 : s.evs.length < 2 ^ 30) (hfit : m.fits s.ws.length) (hw6 : s.ws.length < 1000) (H : Own [SdR sb A bs s] h) : CallS Tryz.prog F 32 [.pointer (some ⟨sb, 0, none⟩), .int .i64 i].toArray h fun v h' => v = .bool true ∧ Own [SdR sb A bs (s.stepT i t m)] h' := by
  refine callS_intro Tryz.func32 rfl rfl rfl fun C G => ?_
  have hid : t.idle = false := by simp [Th.idle, hm6]
  obtain ⟨mb, tc, ea, ec, tb, ab, aoff, pre, rest, hbl, htb, hav, H, hsh⟩ := SdR.openI ht H
  have hi := (List.getElem?_eq_some_iff.1 ht).1
  repeat refine ur_seq ?_
  refine ur_region rfl ?_
  refine ur_opw rfl rfl rfl rfl rfl (opv_assign rfl rfl ?_)
  refine ur_region_end ?_
  repeat refine ur_seq ?_
  refine ur_region rfl ?_
  refine ur_opw rfl rfl rfl rfl rfl (opv_move rfl rfl ?_)
  refine ur_opw rfl rfl rfl rfl rfl (opv_cmp rfl rfl rfl rfl ?_)
  refine ur_opw rfl rfl rfl rfl rfl (opv_move rfl rfl ?_)
  refine ur_split 9 rfl (fun hc1 => ?_) (fun hc1 => ?_)
  · -- yes
    try simp only [decide_eq_true_eq, decide_eq_false_iff_not, Bool.not_eq_true', Bool.not_eq_false', beq_iff_eq, bne_iff_ne, beq_eq_false_iff_ne, bne_eq_false_iff_eq, ne_eq, Decidable.not_not] at hc1
    exfalso; omega
  · -- no
    try simp only [decide_eq_true_eq, decide_eq_false_iff_not, Bool.not_eq_true', Bool.not_eq_false', beq_iff_eq, bne_iff_ne, beq_eq_false_iff_ne, bne_eq_false_iff_eq, ne_eq, Decidable.not_not] at hc1
    refine ur_opw rfl rfl rfl rfl rfl (opv_move rfl rfl ?_)
    refine ur_opw rfl rfl rfl rfl rfl (opv_move rfl rfl ?_)
    refine ur_opw rfl rfl rfl rfl rfl (opv_nilCheck rfl rfl ?_)
    refine ur_opw rfl rfl rfl rfl rfl (opv_fieldAddr0 rfl rfl rfl ?_)
    refine ur_opw rfl rfl rfl rfl rfl (opv_load1 (by first | exact .inl (Has.has H) | exact .inr (Has.has HR)) rfl rfl rfl ?_)
    refine ur_opw rfl rfl rfl rfl rfl (opv_len rfl rfl ?_)
    refine ur_opw rfl rfl rfl rfl rfl (opv_cmp rfl rfl rfl rfl ?_)
    refine ur_opw rfl rfl rfl rfl rfl (opv_pick rfl rfl rfl ?_)
    refine ur_opw rfl rfl rfl rfl rfl (opv_move rfl rfl ?_)
    refine ur_split 18 rfl (fun hc2 => ?_) (fun hc2 => ?_)
    · -- yes
      try simp only [decide_eq_true_eq, decide_eq_false_iff_not, Bool.not_eq_true', Bool.not_eq_false', beq_iff_eq, bne_iff_ne, beq_eq_false_iff_ne, bne_eq_false_iff_eq, ne_eq, Decidable.not_not] at hc2
      exfalso; omega
    · -- no
      try simp only [decide_eq_true_eq, decide_eq_false_iff_not, Bool.not_eq_true', Bool.not_eq_false', beq_iff_eq, bne_iff_ne, beq_eq_false_iff_ne, bne_eq_false_iff_eq, ne_eq, Decidable.not_not] at hc2
      refine ur_opw rfl rfl rfl rfl rfl (opv_move rfl rfl ?_)
      refine ur_opw rfl rfl rfl rfl rfl (opv_nilCheck rfl rfl ?_)
      refine ur_opw rfl rfl rfl rfl rfl (opv_fieldAddr0 rfl rfl rfl ?_)
      refine ur_opw rfl rfl rfl rfl rfl (opv_load1 (by first | exact .inl (Has.has H) | exact .inr (Has.has HR)) rfl rfl rfl ?_)
      refine ur_opw rfl rfl rfl rfl rfl (opv_move rfl rfl ?_)
      refine ur_opw rfl rfl rfl rfl rfl (opv_indexAt (r := aoff + i) rfl rfl rfl ⟨by omega, by omega⟩ (by simp) ?_)
      refine ur_opw rfl rfl rfl rfl rfl (opv_load1 (by first | exact .inl (Has.has H) | exact .inr (Has.has HR)) rfl rfl hav ?_)
      refine ur_opw rfl rfl rfl rfl rfl (opv_call rfl rfl rfl (opv_to [] [0] H (fun F1 h1 hF HR1 H1 => th_idle H1) ?_))
      rintro v h1 h ⟨rfl, H1⟩ J
      have H := J H1
      refine ur_opw rfl rfl rfl rfl rfl (opv_pick rfl rfl rfl ?_)
      refine ur_region_end ?_
      repeat refine ur_seq ?_
      rw [hid]
      refine ur_condF rfl ?_
      refine ur_skip ?_
      repeat refine ur_seq ?_
      refine ur_draw Tryz.mixed (by kernel_rfl) ?_
      refine ud_ro [2, 3] [0, 1, 2, 3, 4, 5, 6, 7, 8, 9] [0, 1, 2, 3, 4, 5, 6, 7, 8] (by kernel_rfl) (by kernel_rfl) H fun F1 h hF1 HF H => ?_
      refine to_free rfl rfl rfl rfl rfl (fun _ _ hk => opv_move rfl rfl hk) ?_
      refine to_free rfl rfl rfl rfl rfl (fun _ _ hk => opv_nilCheck rfl rfl hk) ?_
      refine to_free rfl rfl rfl rfl rfl (fun _ _ hk => opv_fieldAddr0 rfl rfl rfl hk) ?_
      refine to_free rfl rfl rfl rfl rfl (fun _ _ hk => opv_load1 (by first | exact .inr (Has.has HF) | exact .inr (Has.has HR1) | exact .inr (Has.has (HR.mono hF1))) rfl rfl rfl hk) ?_
      refine to_free rfl rfl rfl rfl rfl (fun _ _ hk => opv_move rfl rfl hk) ?_
      refine to_free rfl rfl rfl rfl rfl (fun _ _ hk => opv_indexAt (r := aoff + i) rfl rfl rfl ⟨by omega, by omega⟩ (by simp) hk) ?_
      refine to_free rfl rfl rfl rfl rfl (fun _ _ hk => opv_load1 (by first | exact .inr (Has.has HF) | exact .inr (Has.has HR1) | exact .inr (Has.has (HR.mono hF1))) rfl rfl hav hk) ?_
      refine to_free rfl rfl rfl rfl rfl (fun _ _ hk => opv_move rfl rfl hk) ?_
      refine to_free rfl rfl rfl rfl rfl (fun _ _ hk => opv_move rfl rfl hk) ?_
      refine to_eff rfl rfl rfl rfl rfl (opv_call rfl rfl rfl (opv_to [] [] H (fun F2 h1 hF2 HR1 H1 => have hF := Hp.le_trans hF1 hF2; sd_told) ?_))
      rintro v h1 h ⟨qb, ib, rfl, H1⟩ J
      have H := J H1
      refine to_end fun h J => ?_
      have H := J H
      refine ud_op 10 (by kernel_rfl) (by kernel_rfl) rfl rfl rfl rfl (opv_assign rfl rfl ?_)
      refine ud_op 11 (by kernel_rfl) (by kernel_rfl) rfl rfl rfl rfl (opv_assign rfl rfl ?_)
      refine ud_end (by kernel_rfl) ?_
      obtain ⟨la, lc, nv, hl, H⟩ := ThR.open (H.bring [2])
      rw [hm6] at H
      obtain ⟨mcb0, rfl, H⟩ := NowR.open1 (H.bring [2])
      repeat refine ur_seq ?_
      refine ur_region rfl ?_
      refine ur_opw rfl rfl rfl rfl rfl (opv_move rfl rfl ?_)
      refine ur_opw rfl rfl rfl rfl rfl (opv_nilCheck rfl rfl ?_)
      refine ur_opw rfl rfl rfl rfl rfl (opv_fieldAddr0 rfl rfl rfl ?_)
      refine ur_opw rfl rfl rfl rfl rfl (opv_load1 (by first | exact .inl (Has.has H) | exact .inr (Has.has HR)) rfl rfl rfl ?_)
      refine ur_opw rfl rfl rfl rfl rfl (opv_eqNil rfl rfl ⟨_, Tryz.underlying94, rfl⟩ rfl ?_)
      refine ur_opw rfl rfl rfl rfl rfl (opv_move rfl rfl ?_)
      refine ur_pass rfl rfl rfl rfl ?_
      refine ur_pass rfl rfl rfl rfl ?_
      refine ur_pass rfl rfl rfl rfl ?_
      refine ur_pass rfl rfl rfl rfl ?_
      refine ur_pass rfl rfl rfl rfl ?_
      refine ur_opw rfl rfl rfl rfl rfl (opv_pick rfl rfl rfl ?_)
      refine ur_region_end ?_
      repeat refine ur_seq ?_
      refine ur_condF rfl ?_
      refine ur_skip ?_
      repeat refine ur_seq ?_
      have H := NowR.shut1 H
      rw [← hm6] at H
      have H := SdR.close0 ht hbl htb hl (hsh (H.bring [9, 1, 1, 0, 2, 4, 2, 2]))
      skip
      have ht6 := ht
      obtain ⟨mb6, tc6, ea6, ec6, tb6, ab6, aoff6, pre6, rest6, la6, lc6, nv6, hbl6, htb6, hl6, hav6, H, hsh6⟩ := SdR.openT ht6 H
      have e6 : tb6 = tb := by have q := htb6; rw [htb] at q; injection q with q; exact q.symm
      rw [e6] at H htb6
      rw [hm6] at H
      obtain ⟨mcb, rfl, H⟩ := NowR.open1 (H.bring [2])
      refine ur_draw Tryz.mixed (by kernel_rfl) ?_
      refine ud_all [0, 1, 2, 3, 4, 5, 6, 7, 8, 9] (by kernel_rfl) (by kernel_rfl) H fun F1 hF1 HF => ?_
      refine to_free rfl rfl rfl rfl rfl (fun _ _ hk => opv_move rfl rfl hk) ?_
      refine to_free rfl rfl rfl rfl rfl (fun _ _ hk => opv_nilCheck rfl rfl hk) ?_
      refine to_free rfl rfl rfl rfl rfl (fun _ _ hk => opv_fieldAddr0 rfl rfl rfl hk) ?_
      refine to_free rfl rfl rfl rfl rfl (fun _ _ hk => opv_load1 (by first | exact .inr (Has.has HF) | exact .inr (Has.has HR1) | exact .inr (Has.has (HR.mono hF1))) rfl rfl rfl hk) ?_
      refine to_free rfl rfl rfl rfl rfl (fun _ _ hk => opv_move rfl rfl hk) ?_
      refine to_free rfl rfl rfl rfl rfl (fun _ _ hk => opv_nilCheck rfl rfl hk) ?_
      refine to_free rfl rfl rfl rfl rfl (fun _ _ hk => opv_fieldAddr0 rfl rfl rfl hk) ?_
      refine to_free rfl rfl rfl rfl rfl (fun _ _ hk => opv_load1 (by first | exact .inr (Has.has HF) | exact .inr (Has.has HR1) | exact .inr (Has.has (HR.mono hF1))) rfl rfl rfl hk) ?_
      refine to_free rfl rfl rfl rfl rfl (fun _ _ hk => opv_nilCheckI rfl rfl hk) ?_
      refine to_free rfl rfl rfl rfl rfl (fun _ _ hk => opv_move rfl rfl hk) ?_
      refine to_end ?_
      refine ud_op 10 (by kernel_rfl) (by kernel_rfl) rfl rfl rfl rfl (opv_invoke rfl rfl rfl (opv_to [] [0, 4] H (fun F1 h1 hF HR1 H1 => mc_step (by omega) hfit hw6 H1) ?_))
      rintro v h1 h ⟨rfl, H1⟩ J
      have H := J H1
      refine ud_end (by kernel_rfl) ?_
      have e7 : mcV mcb m = mcV mcb (m.stepX s.ws).1 := by simp [mcV, Mc.stepX_ty]
      rw [e7] at H
      have H := NowR.shut1 H
      have H := SdR.close (s := { s with ws := (m.stepX s.ws).2, n := if m.done then s.n else s.n + 1 }) (t := ⟨t.left, t.what, some (m.stepX s.ws).1⟩) hbl6 htb6 hl6 (hsh6 (H.bring [6, 2, 2, 0, 1, 1, 0, 0]))
      have ht7 : (s.ths.set i ⟨t.left, t.what, some (m.stepX s.ws).1⟩)[i]? = some ⟨t.left, t.what, some (m.stepX s.ws).1⟩ := by
        have := (List.getElem?_eq_some_iff.1 ht6).1
        simp [this]
      have hst : s.stepT i t m = if (m.stepX s.ws).1.done then { ({ s with ws := (m.stepX s.ws).2, n := if m.done then s.n else s.n + 1, ths := s.ths.set i ⟨t.left, t.what, some (m.stepX s.ws).1⟩ } : Sd).tell i 2 t.what (m.stepX s.ws).1.ans with ths := s.ths.set i ⟨t.left, t.what, none⟩ } else { s with ws := (m.stepX s.ws).2, n := if m.done then s.n else s.n + 1, ths := s.ths.set i ⟨t.left, t.what, some (m.stepX s.ws).1⟩ } := rfl
      have hn7 : (if m.done then s.n else s.n + 1) < 2 ^ 30 := by split <;> omega
      generalize hs7 : ({ s with ws := (m.stepX s.ws).2, n := if m.done then s.n else s.n + 1, ths := s.ths.set i ⟨t.left, t.what, some (m.stepX s.ws).1⟩ } : Sd) = s7 at H hst
      have ht7 : s7.ths[i]? = some ⟨t.left, t.what, some (m.stepX s.ws).1⟩ := by rw [← hs7]; exact ht7
      have hn7 : s7.n < 2 ^ 30 := by rw [← hs7]; exact hn7
      have he7 : s7.evs = s.evs := by rw [← hs7]
      have hh7 : s7.ths = s.ths.set i ⟨t.left, t.what, some (m.stepX s.ws).1⟩ := by rw [← hs7]
      repeat refine ur_seq ?_
      refine ur_cond rfl (fun hc3 => ?_) (fun hc3 => ?_)
      · -- yes
        try simp only [decide_eq_true_eq, decide_eq_false_iff_not, Bool.not_eq_true', Bool.not_eq_false', beq_iff_eq, bne_iff_ne, beq_eq_false_iff_ne, bne_eq_false_iff_eq, ne_eq, Decidable.not_not] at hc3
        obtain ⟨mb8, tc8, ea8, ec8, tb8, ab8, aoff8, pre8, rest8, la8, lc8, nv8, hbl8, htb8, hl8, hav8, H, hsh8⟩ := SdR.openT ht7 H
        have e8 : tb8 = tb := by have q := htb8; rw [htb6] at q; injection q with q; exact q.symm
        rw [e8] at H htb8
        obtain ⟨mcb8, rfl, H⟩ := NowR.open1 (H.bring [2])
        repeat refine ur_seq ?_
        refine ur_region rfl ?_
        refine ur_opw rfl rfl rfl rfl rfl (opv_move rfl rfl ?_)
        refine ur_opw rfl rfl rfl rfl rfl (opv_move rfl rfl ?_)
        refine ur_opw rfl rfl rfl rfl rfl (opv_nilCheck rfl rfl ?_)
        refine ur_opw rfl rfl rfl rfl rfl (opv_fieldAddr0 rfl rfl rfl ?_)
        refine ur_opw rfl rfl rfl rfl rfl (opv_load1 (by first | exact .inl (Has.has H) | exact .inr (Has.has HR)) rfl rfl rfl ?_)
        refine ur_opw rfl rfl rfl rfl rfl (opv_invoke rfl rfl rfl (opv_to [] [0] H (fun F1 h1 hF HR1 H1 => mc_ans H1) ?_))
        rintro v h1 h ⟨rfl, H1⟩ J
        have H := J H1
        have H := NowR.shut1 H
        have H := SdR.close (s := s7) (t := ⟨t.left, t.what, some (m.stepX s.ws).1⟩) hbl8 htb8 hl8 (hsh8 (H.bring [6, 1, 1, 0, 0, 0, 0, 0]))
        rw [set_get ht7] at H
        refine ur_opw rfl rfl rfl rfl rfl (opv_call rfl rfl rfl (opv_to [1, 1] [0] H (fun F1 h1 hF HR1 H1 => sd_tell (k := 2) (a := (m.stepX s.ws).1.ans) ht7 hn7 (by rw [he7]; exact he6) HR1 H1) ?_))
        rintro v h1 h ⟨rfl, H1⟩ J
        have H := J H1
        have ht9 : (s7.tell i 2 t.what (m.stepX s.ws).1.ans).ths[i]? = some ⟨t.left, t.what, some (m.stepX s.ws).1⟩ := ht7
        obtain ⟨mb9, tc9, ea9, ec9, tb9, ab9, aoff9, pre9, rest9, la9, lc9, nv9, hbl9, htb9, hl9, hav9, H, hsh9⟩ := SdR.openT ht9 H
        have e9 : tb9 = tb := by have q := htb9; rw [htb8] at q; injection q with q; exact q.symm
        rw [e9] at H htb9
        have H := H.bring [0, 0, 1]
        refine ur_region_end ?_
        refine ur_region rfl ?_
        refine ur_opw rfl rfl rfl rfl rfl (opv_move rfl rfl ?_)
        refine ur_opw rfl rfl rfl rfl rfl (opv_nilCheck rfl rfl ?_)
        refine ur_opw rfl rfl rfl rfl rfl (opv_fieldAddr0 rfl rfl rfl ?_)
        refine ur_opw0 rfl rfl rfl rfl (opv_store H rfl rfl rfl rfl rfl rfl rfl fun h H => ?_)
        refine ur_region_end ?_
        repeat refine ur_seq ?_
        refine ur_region rfl ?_
        refine ur_opw rfl rfl rfl rfl rfl (opv_assign rfl rfl ?_)
        refine ur_region_end ?_
        have H := Own.fold (A := NowR .nilIface none) [] H fun h _ => rfl
        have H := SdR.close (s := s7.tell i 2 t.what (m.stepX s.ws).1.ans) (t := ⟨t.left, t.what, none⟩) hbl9 htb9 hl9 (hsh9 (H.bring [7, 1, 1, 0, 0, 1, 1, 1]))
        have hT : (s7.tell i 2 t.what (m.stepX s.ws).1.ans).ths.set i ⟨t.left, t.what, none⟩ = s.ths.set i ⟨t.left, t.what, none⟩ := by
          show s7.ths.set i _ = _
          rw [hh7, List.set_set]
        rw [hT] at H
        rw [if_pos hc3] at hst
        exact ur_ret1 G Tryz.func32 rfl rfl ⟨rfl, by rw [hst]; exact H.keep [0]⟩
      · -- no
        try simp only [decide_eq_true_eq, decide_eq_false_iff_not, Bool.not_eq_true', Bool.not_eq_false', beq_iff_eq, bne_iff_ne, beq_eq_false_iff_ne, bne_eq_false_iff_eq, ne_eq, Decidable.not_not] at hc3
        rw [if_neg (by rw [hc3]; decide)] at hst
        refine ur_skip ?_
        repeat refine ur_seq ?_
        refine ur_region rfl ?_
        refine ur_opw rfl rfl rfl rfl rfl (opv_assign rfl rfl ?_)
        refine ur_region_end ?_
        exact ur_ret1 G Tryz.func32 rfl rfl ⟨rfl, by rw [hst]; exact H.keep [0]⟩

theorem sd_pick_bad {sb i : Nat} {bs : List Nat} {s : Sd} {x : Cl} {xs : List Cl} {w0 : Cl} (o : s.c.Ok) (R : RdC F s.c A) (ht : s.ths[i]? = some ⟨x :: xs, w0, none⟩) (hn6 : s.n < 2 ^ 29) (he6 : s.evs.length < 2 ^ 29) (hk : s.c.check x = 0 → x.kind = 3 ∨ x.kind = 4 ∨ x.kind = 6) (hck : s.c.check x ≠ 0) (H : Own [SdR sb A bs s] h) : CallS Tryz.prog F 32 [.pointer (some ⟨sb, 0, none⟩), .int .i64 i].toArray h fun v h' => v = .bool true ∧ Own [SdR sb A bs (({ s with ths := s.ths.set i ⟨xs, x, none⟩ }.tell i 1 x .zero).tell i 2 x ⟨s.c.check x, 0, false, 0⟩)] h' := by
  refine callS_intro Tryz.func32 rfl rfl rfl fun C G => ?_
  have hid : (Th.mk (x :: xs) w0 none).idle = false := rfl
  obtain ⟨mb, tc, ea, ec, tb, ab, aoff, pre, rest, hbl, htb, hav, H, hsh⟩ := SdR.openI ht H
  have hi := (List.getElem?_eq_some_iff.1 ht).1
  repeat refine ur_seq ?_
  refine ur_region rfl ?_
  refine ur_opw rfl rfl rfl rfl rfl (opv_assign rfl rfl ?_)
  refine ur_region_end ?_
  repeat refine ur_seq ?_
  refine ur_region rfl ?_
  refine ur_opw rfl rfl rfl rfl rfl (opv_move rfl rfl ?_)
  refine ur_opw rfl rfl rfl rfl rfl (opv_cmp rfl rfl rfl rfl ?_)
  refine ur_opw rfl rfl rfl rfl rfl (opv_move rfl rfl ?_)
  refine ur_split 9 rfl (fun hc1 => ?_) (fun hc1 => ?_)
  · -- yes
    try simp only [decide_eq_true_eq, decide_eq_false_iff_not, Bool.not_eq_true', Bool.not_eq_false', beq_iff_eq, bne_iff_ne, beq_eq_false_iff_ne, bne_eq_false_iff_eq, ne_eq, Decidable.not_not] at hc1
    exfalso; omega
  · -- no
    try simp only [decide_eq_true_eq, decide_eq_false_iff_not, Bool.not_eq_true', Bool.not_eq_false', beq_iff_eq, bne_iff_ne, beq_eq_false_iff_ne, bne_eq_false_iff_eq, ne_eq, Decidable.not_not] at hc1
    refine ur_opw rfl rfl rfl rfl rfl (opv_move rfl rfl ?_)
    refine ur_opw rfl rfl rfl rfl rfl (opv_move rfl rfl ?_)
    refine ur_opw rfl rfl rfl rfl rfl (opv_nilCheck rfl rfl ?_)
    refine ur_opw rfl rfl rfl rfl rfl (opv_fieldAddr0 rfl rfl rfl ?_)
    refine ur_opw rfl rfl rfl rfl rfl (opv_load1 (by first | exact .inl (Has.has H) | exact .inr (Has.has HR)) rfl rfl rfl ?_)
    refine ur_opw rfl rfl rfl rfl rfl (opv_len rfl rfl ?_)
    refine ur_opw rfl rfl rfl rfl rfl (opv_cmp rfl rfl rfl rfl ?_)
    refine ur_opw rfl rfl rfl rfl rfl (opv_pick rfl rfl rfl ?_)
    refine ur_opw rfl rfl rfl rfl rfl (opv_move rfl rfl ?_)
    refine ur_split 18 rfl (fun hc2 => ?_) (fun hc2 => ?_)
    · -- yes
      try simp only [decide_eq_true_eq, decide_eq_false_iff_not, Bool.not_eq_true', Bool.not_eq_false', beq_iff_eq, bne_iff_ne, beq_eq_false_iff_ne, bne_eq_false_iff_eq, ne_eq, Decidable.not_not] at hc2
      exfalso; omega
    · -- no
      try simp only [decide_eq_true_eq, decide_eq_false_iff_not, Bool.not_eq_true', Bool.not_eq_false', beq_iff_eq, bne_iff_ne, beq_eq_false_iff_ne, bne_eq_false_iff_eq, ne_eq, Decidable.not_not] at hc2
      refine ur_opw rfl rfl rfl rfl rfl (opv_move rfl rfl ?_)
      refine ur_opw rfl rfl rfl rfl rfl (opv_nilCheck rfl rfl ?_)
      refine ur_opw rfl rfl rfl rfl rfl (opv_fieldAddr0 rfl rfl rfl ?_)
      refine ur_opw rfl rfl rfl rfl rfl (opv_load1 (by first | exact .inl (Has.has H) | exact .inr (Has.has HR)) rfl rfl rfl ?_)
      refine ur_opw rfl rfl rfl rfl rfl (opv_move rfl rfl ?_)
      refine ur_opw rfl rfl rfl rfl rfl (opv_indexAt (r := aoff + i) rfl rfl rfl ⟨by omega, by omega⟩ (by simp) ?_)
      refine ur_opw rfl rfl rfl rfl rfl (opv_load1 (by first | exact .inl (Has.has H) | exact .inr (Has.has HR)) rfl rfl hav ?_)
      refine ur_opw rfl rfl rfl rfl rfl (opv_call rfl rfl rfl (opv_to [] [0] H (fun F1 h1 hF HR1 H1 => th_idle H1) ?_))
      rintro v h1 h ⟨rfl, H1⟩ J
      have H := J H1
      refine ur_opw rfl rfl rfl rfl rfl (opv_pick rfl rfl rfl ?_)
      refine ur_region_end ?_
      repeat refine ur_seq ?_
      rw [hid]
      refine ur_condF rfl ?_
      refine ur_skip ?_
      repeat refine ur_seq ?_
      refine ur_draw Tryz.mixed (by kernel_rfl) ?_
      refine ud_ro [2, 3] [0, 1, 2, 3, 4, 5, 6, 7, 8, 9] [0, 1, 2, 3, 4, 5, 6, 7, 8] (by kernel_rfl) (by kernel_rfl) H fun F1 h hF1 HF H => ?_
      refine to_free rfl rfl rfl rfl rfl (fun _ _ hk => opv_move rfl rfl hk) ?_
      refine to_free rfl rfl rfl rfl rfl (fun _ _ hk => opv_nilCheck rfl rfl hk) ?_
      refine to_free rfl rfl rfl rfl rfl (fun _ _ hk => opv_fieldAddr0 rfl rfl rfl hk) ?_
      refine to_free rfl rfl rfl rfl rfl (fun _ _ hk => opv_load1 (by first | exact .inr (Has.has HF) | exact .inr (Has.has HR1) | exact .inr (Has.has (HR.mono hF1))) rfl rfl rfl hk) ?_
      refine to_free rfl rfl rfl rfl rfl (fun _ _ hk => opv_move rfl rfl hk) ?_
      refine to_free rfl rfl rfl rfl rfl (fun _ _ hk => opv_indexAt (r := aoff + i) rfl rfl rfl ⟨by omega, by omega⟩ (by simp) hk) ?_
      refine to_free rfl rfl rfl rfl rfl (fun _ _ hk => opv_load1 (by first | exact .inr (Has.has HF) | exact .inr (Has.has HR1) | exact .inr (Has.has (HR.mono hF1))) rfl rfl hav hk) ?_
      refine to_free rfl rfl rfl rfl rfl (fun _ _ hk => opv_move rfl rfl hk) ?_
      refine to_free rfl rfl rfl rfl rfl (fun _ _ hk => opv_move rfl rfl hk) ?_
      refine to_eff rfl rfl rfl rfl rfl (opv_call rfl rfl rfl (opv_to [] [] H (fun F2 h1 hF2 HR1 H1 => have hF := Hp.le_trans hF1 hF2; sd_told) ?_))
      rintro v h1 h ⟨qb, ib, rfl, H1⟩ J
      have H := J H1
      refine to_end fun h J => ?_
      have H := J H
      refine ud_op 10 (by kernel_rfl) (by kernel_rfl) rfl rfl rfl rfl (opv_assign rfl rfl ?_)
      refine ud_op 11 (by kernel_rfl) (by kernel_rfl) rfl rfl rfl rfl (opv_assign rfl rfl ?_)
      refine ud_end (by kernel_rfl) ?_
      obtain ⟨la, lc, nv, hl, H⟩ := ThR.open (H.bring [2])
      have env : nv = .nilIface := by
        rcases NowR.val (H.bring [2]) with ⟨_, q⟩ | ⟨m, mb, q, _⟩
        · exact q
        · cases q
      rw [env] at H
      have he7 : s.evs.length < 2 ^ 30 := by omega
      repeat refine ur_seq ?_
      refine ur_region rfl ?_
      refine ur_opw rfl rfl rfl rfl rfl (opv_move rfl rfl ?_)
      refine ur_opw rfl rfl rfl rfl rfl (opv_nilCheck rfl rfl ?_)
      refine ur_opw rfl rfl rfl rfl rfl (opv_fieldAddr0 rfl rfl rfl ?_)
      refine ur_opw rfl rfl rfl rfl rfl (opv_load1 (by first | exact .inl (Has.has H) | exact .inr (Has.has HR)) rfl rfl rfl ?_)
      refine ur_opw rfl rfl rfl rfl rfl (opv_eqNil rfl rfl ⟨_, Tryz.underlying94, rfl⟩ rfl ?_)
      refine ur_opw rfl rfl rfl rfl rfl (opv_move rfl rfl ?_)
      refine ur_opw rfl rfl rfl rfl rfl (opv_move rfl rfl ?_)
      refine ur_opw rfl rfl rfl rfl rfl (opv_move rfl rfl ?_)
      refine ur_opw rfl rfl rfl rfl rfl (opv_move rfl rfl ?_)
      have H := Own.fold (A := ThR tb ⟨x :: xs, w0, none⟩) [0, 0, 0] H fun h H => ⟨la, lc, _, hl, H⟩
      have H := SdR.closeI0 ht hbl htb (hsh (H.bring [7, 0, 2, 4, 2, 2]))
      refine ur_opw rfl rfl rfl rfl rfl (opv_call rfl rfl rfl (opv_to [1, 1] [0] H (fun F1 h1 hF HR1 H1 => (sd_begin o (R.mono hF) ht (by omega) he6 hk HR1 H1).mono fun v h' q => (if_neg hck) ▸ q) ?_))
      rintro v h1 h ⟨rfl, H1⟩ J
      have H := J H1
      refine ur_opw rfl rfl rfl rfl rfl (opv_not rfl rfl ?_)
      refine ur_opw rfl rfl rfl rfl rfl (opv_pick rfl rfl rfl ?_)
      refine ur_region_end ?_
      repeat refine ur_seq ?_
      refine ur_condT rfl ?_
      repeat refine ur_seq ?_
      refine ur_region rfl ?_
      refine ur_opw rfl rfl rfl rfl rfl (opv_assign rfl rfl ?_)
      refine ur_region_end ?_
      exact ur_ret1 G Tryz.func32 rfl rfl ⟨rfl, H.keep [0]⟩

theorem sd_pick_ok {sb i : Nat} {bs : List Nat} {s : Sd} {x : Cl} {xs : List Cl} {w0 : Cl} (o : s.c.Ok) (R : RdC F s.c A) (ht : s.ths[i]? = some ⟨x :: xs, w0, none⟩) (hn6 : s.n < 2 ^ 29) (he6 : s.evs.length < 2 ^ 29) (hk : s.c.check x = 0 → x.kind = 3 ∨ x.kind = 4 ∨ x.kind = 6) (hck : s.c.check x = 0) (hfit : (s.c.newMc i x).fits s.ws.length) (hw6 : s.ws.length < 1000) (H : Own [SdR sb A bs s] h) : CallS Tryz.prog F 32 [.pointer (some ⟨sb, 0, none⟩), .int .i64 i].toArray h fun v h' => v = .bool true ∧ Own [SdR sb A bs (({ { s with ths := s.ths.set i ⟨xs, x, none⟩ }.tell i 1 x .zero with ths := s.ths.set i ⟨xs, x, some (s.c.newMc i x)⟩ } : Sd).stepT i ⟨xs, x, some (s.c.newMc i x)⟩ (s.c.newMc i x))] h' := by
  refine callS_intro Tryz.func32 rfl rfl rfl fun C G => ?_
  have hid : (Th.mk (x :: xs) w0 none).idle = false := rfl
  obtain ⟨mb, tc, ea, ec, tb, ab, aoff, pre, rest, hbl, htb, hav, H, hsh⟩ := SdR.openI ht H
  have hi := (List.getElem?_eq_some_iff.1 ht).1
  repeat refine ur_seq ?_
  refine ur_region rfl ?_
  refine ur_opw rfl rfl rfl rfl rfl (opv_assign rfl rfl ?_)
  refine ur_region_end ?_
  repeat refine ur_seq ?_
  refine ur_region rfl ?_
  refine ur_opw rfl rfl rfl rfl rfl (opv_move rfl rfl ?_)
  refine ur_opw rfl rfl rfl rfl rfl (opv_cmp rfl rfl rfl rfl ?_)
  refine ur_opw rfl rfl rfl rfl rfl (opv_move rfl rfl ?_)
  refine ur_split 9 rfl (fun hc1 => ?_) (fun hc1 => ?_)
  · -- yes
    try simp only [decide_eq_true_eq, decide_eq_false_iff_not, Bool.not_eq_true', Bool.not_eq_false', beq_iff_eq, bne_iff_ne, beq_eq_false_iff_ne, bne_eq_false_iff_eq, ne_eq, Decidable.not_not] at hc1
    exfalso; omega
  · -- no
    try simp only [decide_eq_true_eq, decide_eq_false_iff_not, Bool.not_eq_true', Bool.not_eq_false', beq_iff_eq, bne_iff_ne, beq_eq_false_iff_ne, bne_eq_false_iff_eq, ne_eq, Decidable.not_not] at hc1
    refine ur_opw rfl rfl rfl rfl rfl (opv_move rfl rfl ?_)
    refine ur_opw rfl rfl rfl rfl rfl (opv_move rfl rfl ?_)
    refine ur_opw rfl rfl rfl rfl rfl (opv_nilCheck rfl rfl ?_)
    refine ur_opw rfl rfl rfl rfl rfl (opv_fieldAddr0 rfl rfl rfl ?_)
    refine ur_opw rfl rfl rfl rfl rfl (opv_load1 (by first | exact .inl (Has.has H) | exact .inr (Has.has HR)) rfl rfl rfl ?_)
    refine ur_opw rfl rfl rfl rfl rfl (opv_len rfl rfl ?_)
    refine ur_opw rfl rfl rfl rfl rfl (opv_cmp rfl rfl rfl rfl ?_)
    refine ur_opw rfl rfl rfl rfl rfl (opv_pick rfl rfl rfl ?_)
    refine ur_opw rfl rfl rfl rfl rfl (opv_move rfl rfl ?_)
    refine ur_split 18 rfl (fun hc2 => ?_) (fun hc2 => ?_)
    · -- yes
      try simp only [decide_eq_true_eq, decide_eq_false_iff_not, Bool.not_eq_true', Bool.not_eq_false', beq_iff_eq, bne_iff_ne, beq_eq_false_iff_ne, bne_eq_false_iff_eq, ne_eq, Decidable.not_not] at hc2
      exfalso; omega
    · -- no
      try simp only [decide_eq_true_eq, decide_eq_false_iff_not, Bool.not_eq_true', Bool.not_eq_false', beq_iff_eq, bne_iff_ne, beq_eq_false_iff_ne, bne_eq_false_iff_eq, ne_eq, Decidable.not_not] at hc2
      refine ur_opw rfl rfl rfl rfl rfl (opv_move rfl rfl ?_)
      refine ur_opw rfl rfl rfl rfl rfl (opv_nilCheck rfl rfl ?_)
      refine ur_opw rfl rfl rfl rfl rfl (opv_fieldAddr0 rfl rfl rfl ?_)
      refine ur_opw rfl rfl rfl rfl rfl (opv_load1 (by first | exact .inl (Has.has H) | exact .inr (Has.has HR)) rfl rfl rfl ?_)
      refine ur_opw rfl rfl rfl rfl rfl (opv_move rfl rfl ?_)
      refine ur_opw rfl rfl rfl rfl rfl (opv_indexAt (r := aoff + i) rfl rfl rfl ⟨by omega, by omega⟩ (by simp) ?_)
      refine ur_opw rfl rfl rfl rfl rfl (opv_load1 (by first | exact .inl (Has.has H) | exact .inr (Has.has HR)) rfl rfl hav ?_)
      refine ur_opw rfl rfl rfl rfl rfl (opv_call rfl rfl rfl (opv_to [] [0] H (fun F1 h1 hF HR1 H1 => th_idle H1) ?_))
      rintro v h1 h ⟨rfl, H1⟩ J
      have H := J H1
      refine ur_opw rfl rfl rfl rfl rfl (opv_pick rfl rfl rfl ?_)
      refine ur_region_end ?_
      repeat refine ur_seq ?_
      rw [hid]
      refine ur_condF rfl ?_
      refine ur_skip ?_
      repeat refine ur_seq ?_
      refine ur_draw Tryz.mixed (by kernel_rfl) ?_
      refine ud_ro [2, 3] [0, 1, 2, 3, 4, 5, 6, 7, 8, 9] [0, 1, 2, 3, 4, 5, 6, 7, 8] (by kernel_rfl) (by kernel_rfl) H fun F1 h hF1 HF H => ?_
      refine to_free rfl rfl rfl rfl rfl (fun _ _ hk => opv_move rfl rfl hk) ?_
      refine to_free rfl rfl rfl rfl rfl (fun _ _ hk => opv_nilCheck rfl rfl hk) ?_
      refine to_free rfl rfl rfl rfl rfl (fun _ _ hk => opv_fieldAddr0 rfl rfl rfl hk) ?_
      refine to_free rfl rfl rfl rfl rfl (fun _ _ hk => opv_load1 (by first | exact .inr (Has.has HF) | exact .inr (Has.has HR1) | exact .inr (Has.has (HR.mono hF1))) rfl rfl rfl hk) ?_
      refine to_free rfl rfl rfl rfl rfl (fun _ _ hk => opv_move rfl rfl hk) ?_
      refine to_free rfl rfl rfl rfl rfl (fun _ _ hk => opv_indexAt (r := aoff + i) rfl rfl rfl ⟨by omega, by omega⟩ (by simp) hk) ?_
      refine to_free rfl rfl rfl rfl rfl (fun _ _ hk => opv_load1 (by first | exact .inr (Has.has HF) | exact .inr (Has.has HR1) | exact .inr (Has.has (HR.mono hF1))) rfl rfl hav hk) ?_
      refine to_free rfl rfl rfl rfl rfl (fun _ _ hk => opv_move rfl rfl hk) ?_
      refine to_free rfl rfl rfl rfl rfl (fun _ _ hk => opv_move rfl rfl hk) ?_
      refine to_eff rfl rfl rfl rfl rfl (opv_call rfl rfl rfl (opv_to [] [] H (fun F2 h1 hF2 HR1 H1 => have hF := Hp.le_trans hF1 hF2; sd_told) ?_))
      rintro v h1 h ⟨qb, ib, rfl, H1⟩ J
      have H := J H1
      refine to_end fun h J => ?_
      have H := J H
      refine ud_op 10 (by kernel_rfl) (by kernel_rfl) rfl rfl rfl rfl (opv_assign rfl rfl ?_)
      refine ud_op 11 (by kernel_rfl) (by kernel_rfl) rfl rfl rfl rfl (opv_assign rfl rfl ?_)
      refine ud_end (by kernel_rfl) ?_
      obtain ⟨la, lc, nv, hl, H⟩ := ThR.open (H.bring [2])
      have env : nv = .nilIface := by
        rcases NowR.val (H.bring [2]) with ⟨_, q⟩ | ⟨m, mb, q, _⟩
        · exact q
        · cases q
      rw [env] at H
      have he7 : s.evs.length < 2 ^ 30 := by omega
      repeat refine ur_seq ?_
      refine ur_region rfl ?_
      refine ur_opw rfl rfl rfl rfl rfl (opv_move rfl rfl ?_)
      refine ur_opw rfl rfl rfl rfl rfl (opv_nilCheck rfl rfl ?_)
      refine ur_opw rfl rfl rfl rfl rfl (opv_fieldAddr0 rfl rfl rfl ?_)
      refine ur_opw rfl rfl rfl rfl rfl (opv_load1 (by first | exact .inl (Has.has H) | exact .inr (Has.has HR)) rfl rfl rfl ?_)
      refine ur_opw rfl rfl rfl rfl rfl (opv_eqNil rfl rfl ⟨_, Tryz.underlying94, rfl⟩ rfl ?_)
      refine ur_opw rfl rfl rfl rfl rfl (opv_move rfl rfl ?_)
      refine ur_opw rfl rfl rfl rfl rfl (opv_move rfl rfl ?_)
      refine ur_opw rfl rfl rfl rfl rfl (opv_move rfl rfl ?_)
      refine ur_opw rfl rfl rfl rfl rfl (opv_move rfl rfl ?_)
      have H := Own.fold (A := ThR tb ⟨x :: xs, w0, none⟩) [0, 0, 0] H fun h H => ⟨la, lc, _, hl, H⟩
      have H := SdR.closeI0 ht hbl htb (hsh (H.bring [7, 0, 2, 4, 2, 2]))
      refine ur_opw rfl rfl rfl rfl rfl (opv_call rfl rfl rfl (opv_to [1, 1] [0] H (fun F1 h1 hF HR1 H1 => (sd_begin o (R.mono hF) ht (by omega) he6 hk HR1 H1).mono fun v h' q => (if_pos hck) ▸ q) ?_))
      rintro v h1 h ⟨rfl, H1⟩ J
      have H := J H1
      refine ur_opw rfl rfl rfl rfl rfl (opv_not rfl rfl ?_)
      refine ur_opw rfl rfl rfl rfl rfl (opv_pick rfl rfl rfl ?_)
      refine ur_region_end ?_
      repeat refine ur_seq ?_
      refine ur_condF rfl ?_
      refine ur_skip ?_
      repeat refine ur_seq ?_
      obtain ⟨s6, hs6⟩ : ∃ s6, ({ { s with ths := s.ths.set i ⟨xs, x, none⟩ }.tell i 1 x .zero with ths := s.ths.set i ⟨xs, x, some (s.c.newMc i x)⟩ } : Sd) = s6 := ⟨_, rfl⟩
      rw [hs6] at H G
      obtain ⟨m, hm⟩ : ∃ m, s.c.newMc i x = m := ⟨_, rfl⟩
      rw [hm] at G hfit hs6
      have ht6 : s6.ths[i]? = some ⟨xs, x, some m⟩ := by rw [← hs6]; simp [hi]
      have hm6 : (Th.mk xs x (some m)).now = some m := rfl
      have hn6 : s6.n < 2 ^ 29 := by rw [← hs6]; exact hn6
      have he6 : s6.evs.length < 2 ^ 30 := by rw [← hs6]; simp [Sd.tell]; omega
      have hws : s6.ws = s.ws := by rw [← hs6]; rfl
      rw [← hws] at hfit hw6
      obtain ⟨mb6, tc6, ea6, ec6, tb6, ab6, aoff6, pre6, rest6, la6, lc6, nv6, hbl6, htb6, hl6, hav6, H, hsh6⟩ := SdR.openT ht6 H
      have e6 : tb6 = tb := by have q := htb6; rw [htb] at q; injection q with q; exact q.symm
      rw [e6] at H htb6
      rw [hm6] at H
      obtain ⟨mcb, rfl, H⟩ := NowR.open1 (H.bring [2])
      refine ur_draw Tryz.mixed (by kernel_rfl) ?_
      refine ud_all [0, 1, 2, 3, 4, 5, 6, 7, 8, 9] (by kernel_rfl) (by kernel_rfl) H fun F1 hF1 HF => ?_
      refine to_free rfl rfl rfl rfl rfl (fun _ _ hk => opv_move rfl rfl hk) ?_
      refine to_free rfl rfl rfl rfl rfl (fun _ _ hk => opv_nilCheck rfl rfl hk) ?_
      refine to_free rfl rfl rfl rfl rfl (fun _ _ hk => opv_fieldAddr0 rfl rfl rfl hk) ?_
      refine to_free rfl rfl rfl rfl rfl (fun _ _ hk => opv_load1 (by first | exact .inr (Has.has HF) | exact .inr (Has.has HR1) | exact .inr (Has.has (HR.mono hF1))) rfl rfl rfl hk) ?_
      refine to_free rfl rfl rfl rfl rfl (fun _ _ hk => opv_move rfl rfl hk) ?_
      refine to_free rfl rfl rfl rfl rfl (fun _ _ hk => opv_nilCheck rfl rfl hk) ?_
      refine to_free rfl rfl rfl rfl rfl (fun _ _ hk => opv_fieldAddr0 rfl rfl rfl hk) ?_
      refine to_free rfl rfl rfl rfl rfl (fun _ _ hk => opv_load1 (by first | exact .inr (Has.has HF) | exact .inr (Has.has HR1) | exact .inr (Has.has (HR.mono hF1))) rfl rfl rfl hk) ?_
      refine to_free rfl rfl rfl rfl rfl (fun _ _ hk => opv_nilCheckI rfl rfl hk) ?_
      refine to_free rfl rfl rfl rfl rfl (fun _ _ hk => opv_move rfl rfl hk) ?_
      refine to_end ?_
      refine ud_op 10 (by kernel_rfl) (by kernel_rfl) rfl rfl rfl rfl (opv_invoke rfl rfl rfl (opv_to [] [0, 4] H (fun F1 h1 hF HR1 H1 => mc_step (by omega) hfit hw6 H1) ?_))
      rintro v h1 h ⟨rfl, H1⟩ J
      have H := J H1
      refine ud_end (by kernel_rfl) ?_
      have e7 : mcV mcb m = mcV mcb (m.stepX s6.ws).1 := by simp [mcV, Mc.stepX_ty]
      rw [e7] at H
      have H := NowR.shut1 H
      have H := SdR.close (s := { s6 with ws := (m.stepX s6.ws).2, n := if m.done then s6.n else s6.n + 1 }) (t := ⟨(Th.mk xs x (some m)).left, (Th.mk xs x (some m)).what, some (m.stepX s6.ws).1⟩) hbl6 htb6 hl6 (hsh6 (H.bring [6, 2, 2, 0, 1, 1, 0, 0]))
      have ht7 : (s6.ths.set i ⟨(Th.mk xs x (some m)).left, (Th.mk xs x (some m)).what, some (m.stepX s6.ws).1⟩)[i]? = some ⟨(Th.mk xs x (some m)).left, (Th.mk xs x (some m)).what, some (m.stepX s6.ws).1⟩ := by
        have := (List.getElem?_eq_some_iff.1 ht6).1
        simp [this]
      have hst : s6.stepT i (Th.mk xs x (some m)) m = if (m.stepX s6.ws).1.done then { ({ s6 with ws := (m.stepX s6.ws).2, n := if m.done then s6.n else s6.n + 1, ths := s6.ths.set i ⟨(Th.mk xs x (some m)).left, (Th.mk xs x (some m)).what, some (m.stepX s6.ws).1⟩ } : Sd).tell i 2 (Th.mk xs x (some m)).what (m.stepX s6.ws).1.ans with ths := s6.ths.set i ⟨(Th.mk xs x (some m)).left, (Th.mk xs x (some m)).what, none⟩ } else { s6 with ws := (m.stepX s6.ws).2, n := if m.done then s6.n else s6.n + 1, ths := s6.ths.set i ⟨(Th.mk xs x (some m)).left, (Th.mk xs x (some m)).what, some (m.stepX s6.ws).1⟩ } := rfl
      have hn7 : (if m.done then s6.n else s6.n + 1) < 2 ^ 30 := by split <;> omega
      generalize hs7 : ({ s6 with ws := (m.stepX s6.ws).2, n := if m.done then s6.n else s6.n + 1, ths := s6.ths.set i ⟨(Th.mk xs x (some m)).left, (Th.mk xs x (some m)).what, some (m.stepX s6.ws).1⟩ } : Sd) = s7 at H hst
      have ht7 : s7.ths[i]? = some ⟨(Th.mk xs x (some m)).left, (Th.mk xs x (some m)).what, some (m.stepX s6.ws).1⟩ := by rw [← hs7]; exact ht7
      have hn7 : s7.n < 2 ^ 30 := by rw [← hs7]; exact hn7
      have he7 : s7.evs = s6.evs := by rw [← hs7]
      have hh7 : s7.ths = s6.ths.set i ⟨(Th.mk xs x (some m)).left, (Th.mk xs x (some m)).what, some (m.stepX s6.ws).1⟩ := by rw [← hs7]
      repeat refine ur_seq ?_
      refine ur_cond rfl (fun hc3 => ?_) (fun hc3 => ?_)
      · -- yes
        try simp only [decide_eq_true_eq, decide_eq_false_iff_not, Bool.not_eq_true', Bool.not_eq_false', beq_iff_eq, bne_iff_ne, beq_eq_false_iff_ne, bne_eq_false_iff_eq, ne_eq, Decidable.not_not] at hc3
        obtain ⟨mb8, tc8, ea8, ec8, tb8, ab8, aoff8, pre8, rest8, la8, lc8, nv8, hbl8, htb8, hl8, hav8, H, hsh8⟩ := SdR.openT ht7 H
        have e8 : tb8 = tb := by have q := htb8; rw [htb6] at q; injection q with q; exact q.symm
        rw [e8] at H htb8
        obtain ⟨mcb8, rfl, H⟩ := NowR.open1 (H.bring [2])
        repeat refine ur_seq ?_
        refine ur_region rfl ?_
        refine ur_opw rfl rfl rfl rfl rfl (opv_move rfl rfl ?_)
        refine ur_opw rfl rfl rfl rfl rfl (opv_move rfl rfl ?_)
        refine ur_opw rfl rfl rfl rfl rfl (opv_nilCheck rfl rfl ?_)
        refine ur_opw rfl rfl rfl rfl rfl (opv_fieldAddr0 rfl rfl rfl ?_)
        refine ur_opw rfl rfl rfl rfl rfl (opv_load1 (by first | exact .inl (Has.has H) | exact .inr (Has.has HR)) rfl rfl rfl ?_)
        refine ur_opw rfl rfl rfl rfl rfl (opv_invoke rfl rfl rfl (opv_to [] [0] H (fun F1 h1 hF HR1 H1 => mc_ans H1) ?_))
        rintro v h1 h ⟨rfl, H1⟩ J
        have H := J H1
        have H := NowR.shut1 H
        have H := SdR.close (s := s7) (t := ⟨(Th.mk xs x (some m)).left, (Th.mk xs x (some m)).what, some (m.stepX s6.ws).1⟩) hbl8 htb8 hl8 (hsh8 (H.bring [6, 1, 1, 0, 0, 0, 0, 0]))
        rw [set_get ht7] at H
        refine ur_opw rfl rfl rfl rfl rfl (opv_call rfl rfl rfl (opv_to [1, 1] [0] H (fun F1 h1 hF HR1 H1 => sd_tell (k := 2) (a := (m.stepX s6.ws).1.ans) ht7 hn7 (by rw [he7]; exact he6) HR1 H1) ?_))
        rintro v h1 h ⟨rfl, H1⟩ J
        have H := J H1
        have ht9 : (s7.tell i 2 (Th.mk xs x (some m)).what (m.stepX s6.ws).1.ans).ths[i]? = some ⟨(Th.mk xs x (some m)).left, (Th.mk xs x (some m)).what, some (m.stepX s6.ws).1⟩ := ht7
        obtain ⟨mb9, tc9, ea9, ec9, tb9, ab9, aoff9, pre9, rest9, la9, lc9, nv9, hbl9, htb9, hl9, hav9, H, hsh9⟩ := SdR.openT ht9 H
        have e9 : tb9 = tb := by have q := htb9; rw [htb8] at q; injection q with q; exact q.symm
        rw [e9] at H htb9
        have H := H.bring [0, 0, 1]
        refine ur_region_end ?_
        refine ur_region rfl ?_
        refine ur_opw rfl rfl rfl rfl rfl (opv_move rfl rfl ?_)
        refine ur_opw rfl rfl rfl rfl rfl (opv_nilCheck rfl rfl ?_)
        refine ur_opw rfl rfl rfl rfl rfl (opv_fieldAddr0 rfl rfl rfl ?_)
        refine ur_opw0 rfl rfl rfl rfl (opv_store H rfl rfl rfl rfl rfl rfl rfl fun h H => ?_)
        refine ur_region_end ?_
        repeat refine ur_seq ?_
        refine ur_region rfl ?_
        refine ur_opw rfl rfl rfl rfl rfl (opv_assign rfl rfl ?_)
        refine ur_region_end ?_
        have H := Own.fold (A := NowR .nilIface none) [] H fun h _ => rfl
        have H := SdR.close (s := s7.tell i 2 (Th.mk xs x (some m)).what (m.stepX s6.ws).1.ans) (t := ⟨(Th.mk xs x (some m)).left, (Th.mk xs x (some m)).what, none⟩) hbl9 htb9 hl9 (hsh9 (H.bring [7, 1, 1, 0, 0, 1, 1, 1]))
        have hT : (s7.tell i 2 (Th.mk xs x (some m)).what (m.stepX s6.ws).1.ans).ths.set i ⟨(Th.mk xs x (some m)).left, (Th.mk xs x (some m)).what, none⟩ = s6.ths.set i ⟨(Th.mk xs x (some m)).left, (Th.mk xs x (some m)).what, none⟩ := by
          show s7.ths.set i _ = _
          rw [hh7, List.set_set]
        rw [hT] at H
        rw [if_pos hc3] at hst
        exact ur_ret1 G Tryz.func32 rfl rfl ⟨rfl, by rw [hst]; exact H.keep [0]⟩
      · -- no
        try simp only [decide_eq_true_eq, decide_eq_false_iff_not, Bool.not_eq_true', Bool.not_eq_false', beq_iff_eq, bne_iff_ne, beq_eq_false_iff_ne, bne_eq_false_iff_eq, ne_eq, Decidable.not_not] at hc3
        rw [if_neg (by rw [hc3]; decide)] at hst
        refine ur_skip ?_
        repeat refine ur_seq ?_
        refine ur_region rfl ?_
        refine ur_opw rfl rfl rfl rfl rfl (opv_assign rfl rfl ?_)
        refine ur_region_end ?_
        exact ur_ret1 G Tryz.func32 rfl rfl ⟨rfl, by rw [hst]; exact H.keep [0]⟩

/-- What a pick asks for. -/
structure _root_.Go.BL.Sd.Can (s : Sd) : Prop where
  o : s.c.Ok
  ws : s.ws.length < 1000
  n : s.n < 2 ^ 29
  evs : s.evs.length < 2 ^ 29
  ths : s.ths.length < 1000
  fit : ∀ t ∈ s.ths, ∀ m, t.now = some m → m.fits s.ws.length
  new : ∀ t ∈ s.ths, ∀ x ∈ t.left, s.c.check x = 0 → (x.kind = 3 ∨ x.kind = 4 ∨ x.kind = 6) ∧ ∀ i : Nat, (s.c.newMc i x).fits s.ws.length
theorem sd_pick {sb : Nat} {i : Int} {bs : List Nat} {s : Sd} (R : RdC F s.c A) (hc : s.Can) (H : Own [SdR sb A bs s] h) :
    CallS Tryz.prog F 32 [.pointer (some ⟨sb, 0, none⟩), .int .i64 i].toArray h fun v h' => v = .bool (s.pick i).2 ∧ Own [SdR sb A bs (s.pick i).1] h' := by
  have hn := hc.n
  have he := hc.evs
  by_cases hi : i < 0 ∨ (s.ths.length : Int) ≤ i
  · rw [Sd.pick_out hi]; exact sd_pick_out hi H
  · obtain ⟨j, rfl⟩ := Int.eq_ofNat_of_zero_le (show 0 ≤ i by omega)
    have hj : j < s.ths.length := by omega
    obtain ⟨t, ht⟩ : ∃ t, s.ths[j]? = some t := ⟨_, List.getElem?_eq_getElem hj⟩
    have hmem := List.mem_of_getElem? ht
    by_cases hid : t.idle = true
    · rw [Sd.pick_idle ht hid]; exact sd_pick_idle ht hid H
    · obtain ⟨left, what, now⟩ := t
      cases now with
      | some m => rw [Sd.pick_some ht rfl]; exact sd_pick_some0 ht rfl hn (by omega) (hc.fit _ hmem m rfl) hc.ws H
      | none =>
        cases left with
        | nil => exact absurd rfl hid
        | cons x xs =>
          have hx := hc.new _ hmem x (by simp)
          rw [Sd.pick_begin ht]
          by_cases hck : s.c.check x = 0
          · rw [if_pos hck]; exact sd_pick_ok hc.o R ht hn he (fun q => (hx q).1) hck ((hx hck).2 j) hc.ws H
          · rw [if_neg hck]; exact sd_pick_bad hc.o R ht hn he (fun q => (hx q).1) hck H
end Go.Proofs
