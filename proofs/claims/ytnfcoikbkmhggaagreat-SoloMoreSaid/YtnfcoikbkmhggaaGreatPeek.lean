/- Package snap: a peek. -/
import Derived.Test.YtnfcoikbkmhggaaGreatShift
set_option linter.all false
set_option linter.unusedVariables false
set_option linter.unusedSimpArgs false
namespace Go.Proofs
open Go.BL
variable {F h : Hp} {c : Cf} {A : CA}
abbrev pkl (base : Int) (bb xb : Nat) (a : Ans) (e : Bool) : List Value :=
  [.int .i64 base, .int .i64 0, .int .i64 0, .func (.func 287) #[] [Value.pointer (some ⟨bb, 0, none⟩)].toArray, .func (.func 288) #[] [Value.pointer (some ⟨xb, 0, none⟩)].toArray, .int .i64 a.err, .int .i64 a.n, .bool a.exact, .int .i64 a.node, .bool e]
/-- A peek's machine behind block b. -/
def PkR (b : Nat) (s : Pk) : HProp := fun h => ∃ bb xb, Own [pt b (.cells (pkl s.base bb xb s.ans s.fin).toArray 295 (0, 0)), pt bb (.cells [Value.int .i64 s.base].toArray 3 (0, 0)), pt xb (.cells [Value.pointer (some ⟨b, 0, none⟩)].toArray 242 (0, 0))] h

theorem pk_next1 {base : Int} {bb : Nat} (hb : 0 ≤ base ∧ base ≤ 1000) (HR : Own [pt bb (.cells [Value.int .i64 base].toArray 3 (0, 0))] F) : CallS Tryz.prog F 287 [.pointer (some ⟨bb, 0, none⟩)].toArray h fun v h' => v = .int .i64 base := by
  refine callS_intro Tryz.func287 rfl rfl rfl fun C G => ?_
  have H : Own [] h := trivial
  repeat refine ur_seq ?_
  refine ur_region rfl ?_
  refine ur_opw rfl rfl rfl rfl rfl (opv_assign rfl rfl ?_)
  refine ur_region_end ?_
  repeat refine ur_seq ?_
  refine ur_region rfl ?_
  refine ur_opw rfl rfl rfl rfl rfl (opv_load1 (by first | exact .inl (Has.has H) | exact .inr (Has.has HR)) rfl rfl rfl ?_)
  refine ur_opw rfl rfl rfl rfl rfl (opv_arith rfl rfl rfl rfl (by first | exact wi (by omega) | rfl) ?_)
  refine ur_opw rfl rfl rfl rfl rfl (opv_assign rfl rfl ?_)
  refine ur_region_end ?_
  exact ur_ret1 G Tryz.func287 rfl rfl (by simp)

theorem pk_take1 {base n : Int} {b bb xb : Nat} {a : Ans} {e : Bool} (H : Own [pt b (.cells (pkl base bb xb a e).toArray 295 (0, 0)), pt xb (.cells [Value.pointer (some ⟨b, 0, none⟩)].toArray 242 (0, 0))] h) : CallS Tryz.prog F 288 [.int .i64 n, .pointer (some ⟨xb, 0, none⟩)].toArray h fun v h' => v = .tuple #[] ∧ Own [pt b (.cells (pkl base bb xb ⟨0, n, false, 0⟩ true).toArray 295 (0, 0)), pt xb (.cells [Value.pointer (some ⟨b, 0, none⟩)].toArray 242 (0, 0))] h' := by
  refine callS_intro Tryz.func288 rfl rfl rfl fun C G => ?_
  refine ur_draw Tryz.mixed (by kernel_rfl) ?_
  refine ud_ro [1] [0, 1, 2, 3, 4, 5, 6] [0, 1, 2, 3, 4, 5] (by kernel_rfl) (by kernel_rfl) H fun F1 h hF1 HF H => ?_
  refine to_free rfl rfl rfl rfl rfl (fun _ _ hk => opv_load1 (by first | exact .inr (Has.has HF) | exact .inr (Has.has HR1) | exact .inr (Has.has (HR.mono hF1))) rfl rfl rfl hk) ?_
  refine to_free rfl rfl rfl rfl rfl (fun _ _ hk => opv_load1 (by first | exact .inr (Has.has HF) | exact .inr (Has.has HR1) | exact .inr (Has.has (HR.mono hF1))) rfl rfl rfl hk) ?_
  refine to_free rfl rfl rfl rfl rfl (fun _ _ hk => opv_move rfl rfl hk) ?_
  refine to_free rfl rfl rfl rfl rfl (fun _ _ hk => opv_build rfl rfl hk) ?_
  refine to_free rfl rfl rfl rfl rfl (fun _ _ hk => opv_nilCheck rfl rfl hk) ?_
  refine to_free rfl rfl rfl rfl rfl (fun _ _ hk => opv_fieldAddr0 rfl rfl rfl hk) ?_
  refine to_eff0 rfl rfl rfl rfl rfl (opv_store H rfl rfl rfl rfl rfl rfl rfl fun h H => ?_)
  refine to_end fun h J => ?_
  have H := J H
  refine ud_op 7 (by kernel_rfl) (by kernel_rfl) rfl rfl rfl rfl (opv_nilCheck rfl rfl ?_)
  refine ud_op 8 (by kernel_rfl) (by kernel_rfl) rfl rfl rfl rfl (opv_fieldAddr0 rfl rfl rfl ?_)
  refine ud_op0 9 (by kernel_rfl) (by kernel_rfl) rfl rfl rfl rfl (opv_store H rfl rfl rfl rfl rfl rfl rfl fun h H => ?_)
  refine ud_end (by kernel_rfl) ?_
  exact ur_end0 G Tryz.func288 rfl ⟨rfl, H.keep [0, 0]⟩

theorem pk_peek {k : Nat} : CallS Tryz.prog F 253 [.int .i64 k].toArray h fun v h' => ∃ b, v = .pointer (some ⟨b, 0, none⟩) ∧ Own [PkR b ⟨k, false, .zero⟩] h' := by
  refine callS_intro Tryz.func253 rfl rfl rfl fun C G => ?_
  have H : Own [] h := trivial
  repeat refine ur_seq ?_
  refine ur_region rfl ?_
  refine ur_opw rfl rfl rfl rfl rfl (opv_box H rfl rfl fun b1 h hb1 H => ?_)
  refine ur_opw rfl rfl rfl rfl rfl (opv_assign rfl rfl ?_)
  refine ur_region_end ?_
  repeat refine ur_seq ?_
  refine ur_region rfl ?_
  refine ur_opw rfl rfl rfl rfl rfl (opv_load1 (by first | exact .inl (Has.has H) | exact .inr (Has.has HR)) rfl rfl rfl ?_)
  refine ur_opw rfl rfl rfl rfl rfl (opv_build rfl rfl ?_)
  refine ur_opw rfl rfl rfl rfl rfl (opv_box H rfl rfl fun b2 h hb2 H => ?_)
  refine ur_opw rfl rfl rfl rfl rfl (opv_alloc H rfl fun b3 h hb3 H => ?_)
  refine ur_opw0 rfl rfl rfl rfl (opv_store H rfl rfl rfl rfl rfl rfl rfl fun h H => ?_)
  refine ur_region_end ?_
  repeat refine ur_seq ?_
  refine ur_region rfl ?_
  refine ur_opw rfl rfl rfl rfl rfl (opv_load1 (by first | exact .inl (Has.has H) | exact .inr (Has.has HR)) rfl rfl rfl ?_)
  refine ur_opw rfl rfl rfl rfl rfl (opv_makeFunc rfl rfl rfl ?_)
  refine ur_opw rfl rfl rfl rfl rfl (opv_nilCheck rfl rfl ?_)
  refine ur_opw rfl rfl rfl rfl rfl (opv_fieldAddr0 rfl rfl rfl ?_)
  refine ur_opw0 rfl rfl rfl rfl (opv_store H rfl rfl rfl rfl rfl rfl rfl fun h H => ?_)
  refine ur_region_end ?_
  repeat refine ur_seq ?_
  refine ur_region rfl ?_
  refine ur_opw rfl rfl rfl rfl rfl (opv_load1 (by first | exact .inl (Has.has H) | exact .inr (Has.has HR)) rfl rfl rfl ?_)
  refine ur_opw rfl rfl rfl rfl rfl (opv_makeFunc rfl rfl rfl ?_)
  refine ur_opw rfl rfl rfl rfl rfl (opv_nilCheck rfl rfl ?_)
  refine ur_opw rfl rfl rfl rfl rfl (opv_fieldAddr0 rfl rfl rfl ?_)
  refine ur_opw0 rfl rfl rfl rfl (opv_store H rfl rfl rfl rfl rfl rfl rfl fun h H => ?_)
  refine ur_region_end ?_
  repeat refine ur_seq ?_
  refine ur_region rfl ?_
  refine ur_opw rfl rfl rfl rfl rfl (opv_load1 (by first | exact .inl (Has.has H) | exact .inr (Has.has HR)) rfl rfl rfl ?_)
  refine ur_opw rfl rfl rfl rfl rfl (opv_assign rfl rfl ?_)
  refine ur_region_end ?_
  exact ur_ret1 G Tryz.func253 rfl rfl ⟨_, rfl, (Own.fold [1, 1, 0] H fun h H => ⟨_, _, H⟩).keep [0]⟩

theorem pk_step {b mb m : Nat} {s : Pk} {ws : List Int} (hm : m < 2 ^ 30) (hbs : s.base < ws.length) (hwl : ws.length < 1000) (H : Own [PkR b s, MemR mb ws m] h) : CallS Tryz.prog F 369 [.pointer (some ⟨b, 0, none⟩), .pointer (some ⟨mb, 0, none⟩)].toArray h fun v h' => v = .bool (s.stepX ws).1.fin ∧ Own [PkR b (s.stepX ws).1, MemR mb (s.stepX ws).2 (if s.fin then m else m + 1)] h' := by
  refine callS_intro Tryz.func369 rfl rfl rfl fun C G => ?_
  obtain ⟨bb, xb, H⟩ := Own.ex2 H
  simp only [List.cons_append, List.nil_append] at H
  obtain ⟨base, fin, ans⟩ := s
  cases fin with
  | true =>
    repeat refine ur_seq ?_
    refine ur_region rfl ?_
    refine ur_opw rfl rfl rfl rfl rfl (opv_assign rfl rfl ?_)
    refine ur_region_end ?_
    repeat refine ur_seq ?_
    refine ur_region rfl ?_
    refine ur_opw rfl rfl rfl rfl rfl (opv_move rfl rfl ?_)
    refine ur_opw rfl rfl rfl rfl rfl (opv_nilCheck rfl rfl ?_)
    refine ur_opw rfl rfl rfl rfl rfl (opv_fieldAddr0 rfl rfl rfl ?_)
    refine ur_opw rfl rfl rfl rfl rfl (opv_load1 (by first | exact .inl (Has.has H) | exact .inr (Has.has HR)) rfl rfl rfl ?_)
    refine ur_opw rfl rfl rfl rfl rfl (opv_not rfl rfl ?_)
    refine ur_region_end ?_
    repeat refine ur_seq ?_
    refine ur_condF rfl ?_
    refine ur_skip ?_
    repeat refine ur_seq ?_
    refine ur_region rfl ?_
    refine ur_opw rfl rfl rfl rfl rfl (opv_move rfl rfl ?_)
    refine ur_opw rfl rfl rfl rfl rfl (opv_nilCheck rfl rfl ?_)
    refine ur_opw rfl rfl rfl rfl rfl (opv_fieldAddr0 rfl rfl rfl ?_)
    refine ur_opw rfl rfl rfl rfl rfl (opv_load1 (by first | exact .inl (Has.has H) | exact .inr (Has.has HR)) rfl rfl rfl ?_)
    refine ur_opw rfl rfl rfl rfl rfl (opv_assign rfl rfl ?_)
    refine ur_region_end ?_
    exact ur_ret1 G Tryz.func369 rfl rfl ⟨by simp [Pk.stepX], by simpa [Pk.stepX] using Own.fold (A := PkR b ⟨base, true, ans⟩) [0, 0, 0] H fun h H => ⟨bb, xb, H⟩⟩
  | false =>
    repeat refine ur_seq ?_
    refine ur_region rfl ?_
    refine ur_opw rfl rfl rfl rfl rfl (opv_assign rfl rfl ?_)
    refine ur_region_end ?_
    repeat refine ur_seq ?_
    refine ur_region rfl ?_
    refine ur_opw rfl rfl rfl rfl rfl (opv_move rfl rfl ?_)
    refine ur_opw rfl rfl rfl rfl rfl (opv_nilCheck rfl rfl ?_)
    refine ur_opw rfl rfl rfl rfl rfl (opv_fieldAddr0 rfl rfl rfl ?_)
    refine ur_opw rfl rfl rfl rfl rfl (opv_load1 (by first | exact .inl (Has.has H) | exact .inr (Has.has HR)) rfl rfl rfl ?_)
    refine ur_opw rfl rfl rfl rfl rfl (opv_not rfl rfl ?_)
    refine ur_region_end ?_
    repeat refine ur_seq ?_
    refine ur_condT rfl ?_
    refine ur_draw Tryz.mixed (by kernel_rfl) ?_
    refine ud_ro [0, 0] [0, 1, 2, 3, 4, 5, 6, 7, 8, 9, 10] [0, 1, 2, 3, 4, 5, 6, 7, 8] (by kernel_rfl) (by kernel_rfl) H fun F1 h hF1 HF H => ?_
    refine to_free rfl rfl rfl rfl rfl (fun _ _ hk => opv_move rfl rfl hk) ?_
    refine to_free rfl rfl rfl rfl rfl (fun _ _ hk => opv_nilCheck rfl rfl hk) ?_
    refine to_free rfl rfl rfl rfl rfl (fun _ _ hk => opv_fieldAddr0 rfl rfl rfl hk) ?_
    refine to_free rfl rfl rfl rfl rfl (fun _ _ hk => opv_load1 (by first | exact .inr (Has.has HF) | exact .inr (Has.has HR1) | exact .inr (Has.has (HR.mono hF1))) rfl rfl rfl hk) ?_
    refine to_free rfl rfl rfl rfl rfl (fun _ _ hk => opv_move rfl rfl hk) ?_
    refine to_free rfl rfl rfl rfl rfl (fun _ _ hk => opv_move rfl rfl hk) ?_
    refine to_free rfl rfl rfl rfl rfl (fun _ _ hk => opv_nilCheck rfl rfl hk) ?_
    refine to_free rfl rfl rfl rfl rfl (fun _ _ hk => opv_fieldAddr0 rfl rfl rfl hk) ?_
    refine to_free rfl rfl rfl rfl rfl (fun _ _ hk => opv_load1 (by first | exact .inr (Has.has HF) | exact .inr (Has.has HR1) | exact .inr (Has.has (HR.mono hF1))) rfl rfl rfl hk) ?_
    refine to_eff rfl rfl rfl rfl rfl (opv_call rfl rfl rfl (opv_to [] [] H (fun F2 h1 hF2 HR1 H1 => have hF := Hp.le_trans hF1 hF2; pk_next1 (by omega) (Own.mono hF2 (HF.keep [1]))) ?_))
    rintro v h1 h ⟨rfl⟩ J
    have H := J (LN := []) trivial
    refine to_eff rfl rfl rfl rfl rfl (opv_call rfl rfl rfl (opv_to [] [1] H (fun F2 h1 hF2 HR1 H1 => have hF := Hp.le_trans hF1 hF2; mload (rd_some hbs) hm H1) ?_))
    rintro v h1 h ⟨rfl, H1⟩ J
    have H := J H1
    refine to_end fun h J => ?_
    have H := J H
    refine ud_op 11 (by kernel_rfl) (by kernel_rfl) rfl rfl rfl rfl (opv_call rfl rfl rfl (opv_to [] [2, 1] H (fun F1 h1 hF HR1 H1 => pk_take1 H1) ?_))
    rintro v h1 h ⟨rfl, H1⟩ J
    have H := J H1
    refine ud_end (by kernel_rfl) ?_
    repeat refine ur_seq ?_
    refine ur_region rfl ?_
    refine ur_opw rfl rfl rfl rfl rfl (opv_move rfl rfl ?_)
    refine ur_opw rfl rfl rfl rfl rfl (opv_nilCheck rfl rfl ?_)
    refine ur_opw rfl rfl rfl rfl rfl (opv_fieldAddr0 rfl rfl rfl ?_)
    refine ur_opw rfl rfl rfl rfl rfl (opv_load1 (by first | exact .inl (Has.has H) | exact .inr (Has.has HR)) rfl rfl rfl ?_)
    refine ur_opw rfl rfl rfl rfl rfl (opv_assign rfl rfl ?_)
    refine ur_region_end ?_
    exact ur_ret1 G Tryz.func369 rfl rfl ⟨by simp [Pk.stepX], by simpa [Pk.stepX] using Own.bring [0] (Own.fold (A := PkR b ⟨base, true, ⟨0, rd ws base, false, 0⟩⟩) [0, 2, 0] H fun h H => ⟨bb, xb, H⟩)⟩
end Go.Proofs
