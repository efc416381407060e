/- Package sched: told, Busy, Events, Words. -/
import Derived.Test.YtnfcoikbkmhggaaGreatSched
set_option linter.all false
set_option linter.unusedVariables false
set_option linter.unusedSimpArgs false
namespace Go.BL
theorem opv_nilCheckI {P : Program} {F h : Hp} {N : Nat} {l : TL} {K : Value → Hp → Prop} {o : Oper} {x : Operand} {t : TypeId} {v : Value} (hop : o.op = .nilCheck x) (hx : ev l x = some (.iface t v)) (hk : K (.iface t v) h) : OPV P F N o l h K :=
  opv_pure (fun a e => by simp only [execOp, hop, e.ev hx]; rfl) hk
end Go.BL
namespace Go.Proofs
open Go.BL
variable {F h : Hp} {c : Cf} {A : CA} {L : List HProp}

theorem sd_told {sb : Nat} {i : Int} : CallS Tryz.prog F 68 [.pointer (some ⟨sb, 0, none⟩), .int .i64 i].toArray h fun v h' => ∃ qb ib, v = .func (.func 103) #[] [Value.pointer (some ⟨qb, 0, none⟩), Value.pointer (some ⟨ib, 0, none⟩)].toArray ∧ Own [pt qb (.cells [Value.pointer (some ⟨sb, 0, none⟩)].toArray 34 (0, 0)), pt ib (.cells [Value.int .i64 i].toArray 3 (0, 0))] h' := by
  refine callS_intro Tryz.func68 rfl rfl rfl fun C G => ?_
  have H : Own [] h := trivial
  repeat refine ur_seq ?_
  refine ur_region rfl ?_
  refine ur_opw rfl rfl rfl rfl rfl (opv_box H rfl rfl fun b1 h hb1 H => ?_)
  refine ur_opw rfl rfl rfl rfl rfl (opv_box H rfl rfl fun b2 h hb2 H => ?_)
  refine ur_opw rfl rfl rfl rfl rfl (opv_assign rfl rfl ?_)
  refine ur_region_end ?_
  repeat refine ur_seq ?_
  refine ur_region rfl ?_
  refine ur_opw rfl rfl rfl rfl rfl (opv_makeFunc rfl rfl rfl ?_)
  refine ur_opw rfl rfl rfl rfl rfl (opv_assign rfl rfl ?_)
  refine ur_region_end ?_
  exact ur_ret1 G Tryz.func68 rfl rfl ⟨_, _, rfl, H.bring [1]⟩

theorem sd_words {sb : Nat} {bs : List Nat} {s : Sd} (hw : s.ws.length < 2 ^ 30) (H : Own [SdR sb A bs s] h) : CallS Tryz.prog F 43 [.pointer (some ⟨sb, 0, none⟩)].toArray h fun v h' => ∃ a' c', v = .slice a' s.ws.length c' ∧ Own [SlR 3 1 a' s.ws.length c' (ints s.ws), SdR sb A bs s] h' := by
  refine callS_intro Tryz.func43 rfl rfl rfl fun C G => ?_
  obtain ⟨mb, ta, tc, ea, ec, hbl, H⟩ := SdR.open H
  repeat refine ur_seq ?_
  refine ur_region rfl ?_
  refine ur_opw rfl rfl rfl rfl rfl (opv_assign rfl rfl ?_)
  refine ur_region_end ?_
  repeat refine ur_seq ?_
  refine ur_region rfl ?_
  refine ur_opw rfl rfl rfl rfl rfl (opv_move rfl rfl ?_)
  refine ur_opw rfl rfl rfl rfl rfl (opv_nilCheck rfl rfl ?_)
  refine ur_opw rfl rfl rfl rfl rfl (opv_fieldAddr0 rfl rfl rfl ?_)
  refine ur_opw rfl rfl rfl rfl rfl (opv_load1 (by first | exact .inl (Has.has H) | exact .inr (Has.has HR)) rfl rfl rfl ?_)
  refine ur_opw rfl rfl rfl rfl rfl (opv_call rfl rfl rfl (opv_to [] [1] H (fun F1 h1 hF HR1 H1 => mwords hw H1) ?_))
  rintro v h1 h ⟨a', c', rfl, H1⟩ J
  have H := J H1
  refine ur_opw rfl rfl rfl rfl rfl (opv_assign rfl rfl ?_)
  refine ur_region_end ?_
  exact ur_ret1 G Tryz.func43 rfl rfl ⟨a', c', rfl, (Own.fold (A := SdR sb A bs s) [2, 1, 1, 1, 1] H fun h H => ⟨mb, ta, tc, ea, ec, hbl, H⟩).keep [1, 0]⟩

theorem ones_evs : ∀ l : List Ev, ones (evsv l) = true
  | [] => rfl
  | e :: l => by
    have : evsv (e :: l) = evv e ++ evsv l := by simp [evsv]
    rw [this, ones_append, ones_evs l]; rfl

theorem sd_events {sb : Nat} {bs : List Nat} {s : Sd} (he : s.evs.length < 2 ^ 30) (H : Own [SdR sb A bs s] h) : CallS Tryz.prog F 35 [.pointer (some ⟨sb, 0, none⟩)].toArray h fun v h' => ∃ a' c', v = .slice a' s.evs.length c' ∧ Own [SlR 75 10 a' s.evs.length c' (evsv s.evs), SdR sb A bs s] h' := by
  refine callS_intro Tryz.func35 rfl rfl rfl fun C G => ?_
  obtain ⟨mb, ta, tc, ea, ec, hbl, H⟩ := SdR.open H
  repeat refine ur_seq ?_
  refine ur_region rfl ?_
  refine ur_opw rfl rfl rfl rfl rfl (opv_assign rfl rfl ?_)
  refine ur_region_end ?_
  repeat refine ur_seq ?_
  refine ur_region rfl ?_
  refine ur_opw rfl rfl rfl rfl rfl (opv_move rfl rfl ?_)
  refine ur_opw rfl rfl rfl rfl rfl (opv_nilCheck rfl rfl ?_)
  refine ur_opw rfl rfl rfl rfl rfl (opv_fieldAddr0 rfl rfl rfl ?_)
  refine ur_opw rfl rfl rfl rfl rfl (opv_load1 (by first | exact .inl (Has.has H) | exact .inr (Has.has HR)) rfl rfl rfl ?_)
  refine ur_opw rfl rfl rfl rfl rfl (opv_call rfl rfl rfl (opv_to [3] [] H (fun F1 h1 hF HR1 H1 => cloneEvents (RdSl.ofSl HR1) (ones_evs _) he) ?_))
  rintro v h1 h ⟨a', c', rfl, H1⟩ J
  have H := J H1
  refine ur_opw rfl rfl rfl rfl rfl (opv_assign rfl rfl ?_)
  refine ur_region_end ?_
  exact ur_ret1 G Tryz.func35 rfl rfl ⟨a', c', rfl, (Own.fold (A := SdR sb A bs s) [2, 2, 2, 1, 1] H fun h H => ⟨mb, ta, tc, ea, ec, hbl, H⟩).keep [1, 0]⟩

theorem NowR.val {nv : Value} {now : Option Mc} (H : Own (NowR nv now :: L) h) : (now = none ∧ nv = .nilIface) ∨ ∃ m mb, now = some m ∧ nv = mcV mb m := by
  obtain ⟨_, _, _, _, q, _⟩ := H
  cases now with
  | none => exact .inl ⟨rfl, q⟩
  | some m => obtain ⟨mb, q, _⟩ := q; exact .inr ⟨m, mb, rfl, q⟩
theorem SdR.close0 {sb mb i tb tc ec lc : Nat} {ta ea la : Option Addr} {bs : List Nat} {nv : Value} {s : Sd} {t : Th} (ht : s.ths[i]? = some t) (hbl : bs.length = s.ths.length) (htb : bs[i]? = some tb) (hl : t.left.length ≤ lc)
    (H : Own (SlR 97 1 ta s.ths.length tc (bs.map ptrV) :: pt tb (.cells (thl la t.left.length lc t.what nv).toArray 96 (0, 0)) :: LfR la (clsv t.left) :: NowR nv t.now :: ThsR (bs.eraseIdx i) (s.ths.eraseIdx i) ::
      pt sb (.cells (sdl s.c A mb ta s.ths.length tc ea s.evs.length ec).toArray 92 (0, 0)) :: MemR mb s.ws s.n :: SlR 75 10 ea s.evs.length ec (evsv s.evs) :: L) h) : Own (SdR sb A bs s :: L) h := by
  have := SdR.close hbl htb hl H
  rwa [set_get ht] at this

theorem sd_busy_none {sb i : Nat} {bs : List Nat} {s : Sd} {t : Th} (ht : s.ths[i]? = some t) (hnow : t.now = none) (H : Own [SdR sb A bs s] h) : CallS Tryz.prog F 31 [.pointer (some ⟨sb, 0, none⟩), .int .i64 i].toArray h fun v h' => v = .bool false ∧ Own [SdR sb A bs s] h' := by
  refine callS_intro Tryz.func31 rfl rfl rfl fun C G => ?_
  obtain ⟨mb, tc, ea, ec, tb, ab, aoff, pre, rest, la, lc, nv, hbl, htb, hl, hav, H, hsh⟩ := SdR.openT ht H
  have hi := (List.getElem?_eq_some_iff.1 ht).1
  have e : nv = .nilIface := by
    rcases NowR.val (H.bring [2]) with ⟨_, q⟩ | ⟨m, mb, q, _⟩
    · exact q
    · rw [hnow] at q; cases q
  subst e
  repeat refine ur_seq ?_
  refine ur_region rfl ?_
  refine ur_opw rfl rfl rfl rfl rfl (opv_assign rfl rfl ?_)
  refine ur_region_end ?_
  repeat refine ur_seq ?_
  refine ur_region rfl ?_
  refine ur_opw rfl rfl rfl rfl rfl (opv_move rfl rfl ?_)
  refine ur_opw rfl rfl rfl rfl rfl (opv_cmp rfl rfl rfl rfl ?_)
  refine ur_opw rfl rfl rfl rfl rfl (opv_move rfl rfl ?_)
  refine ur_split 7 rfl (fun hc1 => ?_) (fun hc1 => ?_)
  · -- yes
    try simp only [decide_eq_true_eq, decide_eq_false_iff_not, Bool.not_eq_true', Bool.not_eq_false', beq_iff_eq, bne_iff_ne, beq_eq_false_iff_ne, bne_eq_false_iff_eq, ne_eq, Decidable.not_not] at hc1
    refine ur_opw rfl rfl rfl rfl rfl (opv_move rfl rfl ?_)
    refine ur_opw rfl rfl rfl rfl rfl (opv_move rfl rfl ?_)
    refine ur_opw rfl rfl rfl rfl rfl (opv_nilCheck rfl rfl ?_)
    refine ur_opw rfl rfl rfl rfl rfl (opv_fieldAddr0 rfl rfl rfl ?_)
    refine ur_opw rfl rfl rfl rfl rfl (opv_load1 (by first | exact .inl (Has.has H) | exact .inr (Has.has HR)) rfl rfl rfl ?_)
    refine ur_opw rfl rfl rfl rfl rfl (opv_len rfl rfl ?_)
    refine ur_opw rfl rfl rfl rfl rfl (opv_cmp rfl rfl rfl rfl ?_)
    refine ur_opw rfl rfl rfl rfl rfl (opv_pick rfl rfl rfl ?_)
    refine ur_opw rfl rfl rfl rfl rfl (opv_move rfl rfl ?_)
    refine ur_split 16 rfl (fun hc2 => ?_) (fun hc2 => ?_)
    · -- yes
      try simp only [decide_eq_true_eq, decide_eq_false_iff_not, Bool.not_eq_true', Bool.not_eq_false', beq_iff_eq, bne_iff_ne, beq_eq_false_iff_ne, bne_eq_false_iff_eq, ne_eq, Decidable.not_not] at hc2
      refine ur_opw rfl rfl rfl rfl rfl (opv_move rfl rfl ?_)
      refine ur_opw rfl rfl rfl rfl rfl (opv_nilCheck rfl rfl ?_)
      refine ur_opw rfl rfl rfl rfl rfl (opv_fieldAddr0 rfl rfl rfl ?_)
      refine ur_opw rfl rfl rfl rfl rfl (opv_load1 (by first | exact .inl (Has.has H) | exact .inr (Has.has HR)) rfl rfl rfl ?_)
      refine ur_opw rfl rfl rfl rfl rfl (opv_move rfl rfl ?_)
      refine ur_opw rfl rfl rfl rfl rfl (opv_indexAt (r := aoff + i) rfl rfl rfl ⟨by omega, by omega⟩ (by simp) ?_)
      refine ur_opw rfl rfl rfl rfl rfl (opv_load1 (by first | exact .inl (Has.has H) | exact .inr (Has.has HR)) rfl rfl hav ?_)
      refine ur_opw rfl rfl rfl rfl rfl (opv_nilCheck rfl rfl ?_)
      refine ur_opw rfl rfl rfl rfl rfl (opv_fieldAddr0 rfl rfl rfl ?_)
      refine ur_opw rfl rfl rfl rfl rfl (opv_load1 (by first | exact .inl (Has.has H) | exact .inr (Has.has HR)) rfl rfl rfl ?_)
      refine ur_opw rfl rfl rfl rfl rfl (opv_neqNil rfl rfl ⟨_, Tryz.underlying94, rfl⟩ rfl ?_)
      refine ur_opw rfl rfl rfl rfl rfl (opv_pick rfl rfl rfl ?_)
      refine ur_opw rfl rfl rfl rfl rfl (opv_assign rfl rfl ?_)
      refine ur_region_end ?_
      first | (exfalso; omega) | exact ur_ret1 G Tryz.func31 rfl rfl ⟨rfl, SdR.close0 ht hbl htb hl (hsh (H.bring [6]))⟩
    · -- no
      try simp only [decide_eq_true_eq, decide_eq_false_iff_not, Bool.not_eq_true', Bool.not_eq_false', beq_iff_eq, bne_iff_ne, beq_eq_false_iff_ne, bne_eq_false_iff_eq, ne_eq, Decidable.not_not] at hc2
      refine ur_pass rfl rfl rfl rfl ?_
      refine ur_pass rfl rfl rfl rfl ?_
      refine ur_pass rfl rfl rfl rfl ?_
      refine ur_pass rfl rfl rfl rfl ?_
      refine ur_pass rfl rfl rfl rfl ?_
      refine ur_pass rfl rfl rfl rfl ?_
      refine ur_pass rfl rfl rfl rfl ?_
      refine ur_pass rfl rfl rfl rfl ?_
      refine ur_pass rfl rfl rfl rfl ?_
      refine ur_pass rfl rfl rfl rfl ?_
      refine ur_pass rfl rfl rfl rfl ?_
      refine ur_opw rfl rfl rfl rfl rfl (opv_pick rfl rfl rfl ?_)
      refine ur_opw rfl rfl rfl rfl rfl (opv_assign rfl rfl ?_)
      refine ur_region_end ?_
      first | (exfalso; omega) | exact ur_ret1 G Tryz.func31 rfl rfl ⟨rfl, SdR.close0 ht hbl htb hl (hsh (H.bring [6]))⟩
  · -- no
    try simp only [decide_eq_true_eq, decide_eq_false_iff_not, Bool.not_eq_true', Bool.not_eq_false', beq_iff_eq, bne_iff_ne, beq_eq_false_iff_ne, bne_eq_false_iff_eq, ne_eq, Decidable.not_not] at hc1
    refine ur_pass rfl rfl rfl rfl ?_
    refine ur_pass rfl rfl rfl rfl ?_
    refine ur_pass rfl rfl rfl rfl ?_
    refine ur_pass rfl rfl rfl rfl ?_
    refine ur_pass rfl rfl rfl rfl ?_
    refine ur_pass rfl rfl rfl rfl ?_
    refine ur_pass rfl rfl rfl rfl ?_
    refine ur_opw rfl rfl rfl rfl rfl (opv_pick rfl rfl rfl ?_)
    refine ur_opw rfl rfl rfl rfl rfl (opv_move rfl rfl ?_)
    refine ur_pass rfl rfl rfl rfl ?_
    refine ur_pass rfl rfl rfl rfl ?_
    refine ur_pass rfl rfl rfl rfl ?_
    refine ur_pass rfl rfl rfl rfl ?_
    refine ur_pass rfl rfl rfl rfl ?_
    refine ur_pass rfl rfl rfl rfl ?_
    refine ur_pass rfl rfl rfl rfl ?_
    refine ur_pass rfl rfl rfl rfl ?_
    refine ur_pass rfl rfl rfl rfl ?_
    refine ur_pass rfl rfl rfl rfl ?_
    refine ur_pass rfl rfl rfl rfl ?_
    refine ur_opw rfl rfl rfl rfl rfl (opv_pick rfl rfl rfl ?_)
    refine ur_opw rfl rfl rfl rfl rfl (opv_assign rfl rfl ?_)
    refine ur_region_end ?_
    first | (exfalso; omega) | exact ur_ret1 G Tryz.func31 rfl rfl ⟨rfl, SdR.close0 ht hbl htb hl (hsh (H.bring [6]))⟩

theorem sd_busy_some {sb i : Nat} {bs : List Nat} {s : Sd} {t : Th} {m : Mc} (ht : s.ths[i]? = some t) (hnow : t.now = some m) (H : Own [SdR sb A bs s] h) : CallS Tryz.prog F 31 [.pointer (some ⟨sb, 0, none⟩), .int .i64 i].toArray h fun v h' => v = .bool true ∧ Own [SdR sb A bs s] h' := by
  refine callS_intro Tryz.func31 rfl rfl rfl fun C G => ?_
  obtain ⟨mb, tc, ea, ec, tb, ab, aoff, pre, rest, la, lc, nv, hbl, htb, hl, hav, H, hsh⟩ := SdR.openT ht H
  have hi := (List.getElem?_eq_some_iff.1 ht).1
  obtain ⟨mcb, e⟩ : ∃ mcb, nv = mcV mcb m := by
    rcases NowR.val (H.bring [2]) with ⟨q, _⟩ | ⟨m2, mb2, q, e⟩
    · rw [hnow] at q; cases q
    · rw [hnow] at q; cases q; exact ⟨mb2, e⟩
  subst e
  repeat refine ur_seq ?_
  refine ur_region rfl ?_
  refine ur_opw rfl rfl rfl rfl rfl (opv_assign rfl rfl ?_)
  refine ur_region_end ?_
  repeat refine ur_seq ?_
  refine ur_region rfl ?_
  refine ur_opw rfl rfl rfl rfl rfl (opv_move rfl rfl ?_)
  refine ur_opw rfl rfl rfl rfl rfl (opv_cmp rfl rfl rfl rfl ?_)
  refine ur_opw rfl rfl rfl rfl rfl (opv_move rfl rfl ?_)
  refine ur_split 7 rfl (fun hc1 => ?_) (fun hc1 => ?_)
  · -- yes
    try simp only [decide_eq_true_eq, decide_eq_false_iff_not, Bool.not_eq_true', Bool.not_eq_false', beq_iff_eq, bne_iff_ne, beq_eq_false_iff_ne, bne_eq_false_iff_eq, ne_eq, Decidable.not_not] at hc1
    refine ur_opw rfl rfl rfl rfl rfl (opv_move rfl rfl ?_)
    refine ur_opw rfl rfl rfl rfl rfl (opv_move rfl rfl ?_)
    refine ur_opw rfl rfl rfl rfl rfl (opv_nilCheck rfl rfl ?_)
    refine ur_opw rfl rfl rfl rfl rfl (opv_fieldAddr0 rfl rfl rfl ?_)
    refine ur_opw rfl rfl rfl rfl rfl (opv_load1 (by first | exact .inl (Has.has H) | exact .inr (Has.has HR)) rfl rfl rfl ?_)
    refine ur_opw rfl rfl rfl rfl rfl (opv_len rfl rfl ?_)
    refine ur_opw rfl rfl rfl rfl rfl (opv_cmp rfl rfl rfl rfl ?_)
    refine ur_opw rfl rfl rfl rfl rfl (opv_pick rfl rfl rfl ?_)
    refine ur_opw rfl rfl rfl rfl rfl (opv_move rfl rfl ?_)
    refine ur_split 16 rfl (fun hc2 => ?_) (fun hc2 => ?_)
    · -- yes
      try simp only [decide_eq_true_eq, decide_eq_false_iff_not, Bool.not_eq_true', Bool.not_eq_false', beq_iff_eq, bne_iff_ne, beq_eq_false_iff_ne, bne_eq_false_iff_eq, ne_eq, Decidable.not_not] at hc2
      refine ur_opw rfl rfl rfl rfl rfl (opv_move rfl rfl ?_)
      refine ur_opw rfl rfl rfl rfl rfl (opv_nilCheck rfl rfl ?_)
      refine ur_opw rfl rfl rfl rfl rfl (opv_fieldAddr0 rfl rfl rfl ?_)
      refine ur_opw rfl rfl rfl rfl rfl (opv_load1 (by first | exact .inl (Has.has H) | exact .inr (Has.has HR)) rfl rfl rfl ?_)
      refine ur_opw rfl rfl rfl rfl rfl (opv_move rfl rfl ?_)
      refine ur_opw rfl rfl rfl rfl rfl (opv_indexAt (r := aoff + i) rfl rfl rfl ⟨by omega, by omega⟩ (by simp) ?_)
      refine ur_opw rfl rfl rfl rfl rfl (opv_load1 (by first | exact .inl (Has.has H) | exact .inr (Has.has HR)) rfl rfl hav ?_)
      refine ur_opw rfl rfl rfl rfl rfl (opv_nilCheck rfl rfl ?_)
      refine ur_opw rfl rfl rfl rfl rfl (opv_fieldAddr0 rfl rfl rfl ?_)
      refine ur_opw rfl rfl rfl rfl rfl (opv_load1 (by first | exact .inl (Has.has H) | exact .inr (Has.has HR)) rfl rfl rfl ?_)
      refine ur_opw rfl rfl rfl rfl rfl (opv_neqNil rfl rfl ⟨_, Tryz.underlying94, rfl⟩ rfl ?_)
      refine ur_opw rfl rfl rfl rfl rfl (opv_pick rfl rfl rfl ?_)
      refine ur_opw rfl rfl rfl rfl rfl (opv_assign rfl rfl ?_)
      refine ur_region_end ?_
      first | (exfalso; omega) | exact ur_ret1 G Tryz.func31 rfl rfl ⟨rfl, SdR.close0 ht hbl htb hl (hsh (H.bring [6]))⟩
    · -- no
      try simp only [decide_eq_true_eq, decide_eq_false_iff_not, Bool.not_eq_true', Bool.not_eq_false', beq_iff_eq, bne_iff_ne, beq_eq_false_iff_ne, bne_eq_false_iff_eq, ne_eq, Decidable.not_not] at hc2
      refine ur_pass rfl rfl rfl rfl ?_
      refine ur_pass rfl rfl rfl rfl ?_
      refine ur_pass rfl rfl rfl rfl ?_
      refine ur_pass rfl rfl rfl rfl ?_
      refine ur_pass rfl rfl rfl rfl ?_
      refine ur_pass rfl rfl rfl rfl ?_
      refine ur_pass rfl rfl rfl rfl ?_
      refine ur_pass rfl rfl rfl rfl ?_
      refine ur_pass rfl rfl rfl rfl ?_
      refine ur_pass rfl rfl rfl rfl ?_
      refine ur_pass rfl rfl rfl rfl ?_
      refine ur_opw rfl rfl rfl rfl rfl (opv_pick rfl rfl rfl ?_)
      refine ur_opw rfl rfl rfl rfl rfl (opv_assign rfl rfl ?_)
      refine ur_region_end ?_
      first | (exfalso; omega) | exact ur_ret1 G Tryz.func31 rfl rfl ⟨rfl, SdR.close0 ht hbl htb hl (hsh (H.bring [6]))⟩
  · -- no
    try simp only [decide_eq_true_eq, decide_eq_false_iff_not, Bool.not_eq_true', Bool.not_eq_false', beq_iff_eq, bne_iff_ne, beq_eq_false_iff_ne, bne_eq_false_iff_eq, ne_eq, Decidable.not_not] at hc1
    refine ur_pass rfl rfl rfl rfl ?_
    refine ur_pass rfl rfl rfl rfl ?_
    refine ur_pass rfl rfl rfl rfl ?_
    refine ur_pass rfl rfl rfl rfl ?_
    refine ur_pass rfl rfl rfl rfl ?_
    refine ur_pass rfl rfl rfl rfl ?_
    refine ur_pass rfl rfl rfl rfl ?_
    refine ur_opw rfl rfl rfl rfl rfl (opv_pick rfl rfl rfl ?_)
    refine ur_opw rfl rfl rfl rfl rfl (opv_move rfl rfl ?_)
    refine ur_pass rfl rfl rfl rfl ?_
    refine ur_pass rfl rfl rfl rfl ?_
    refine ur_pass rfl rfl rfl rfl ?_
    refine ur_pass rfl rfl rfl rfl ?_
    refine ur_pass rfl rfl rfl rfl ?_
    refine ur_pass rfl rfl rfl rfl ?_
    refine ur_pass rfl rfl rfl rfl ?_
    refine ur_pass rfl rfl rfl rfl ?_
    refine ur_pass rfl rfl rfl rfl ?_
    refine ur_pass rfl rfl rfl rfl ?_
    refine ur_pass rfl rfl rfl rfl ?_
    refine ur_opw rfl rfl rfl rfl rfl (opv_pick rfl rfl rfl ?_)
    refine ur_opw rfl rfl rfl rfl rfl (opv_assign rfl rfl ?_)
    refine ur_region_end ?_
    first | (exfalso; omega) | exact ur_ret1 G Tryz.func31 rfl rfl ⟨rfl, SdR.close0 ht hbl htb hl (hsh (H.bring [6]))⟩
end Go.Proofs
