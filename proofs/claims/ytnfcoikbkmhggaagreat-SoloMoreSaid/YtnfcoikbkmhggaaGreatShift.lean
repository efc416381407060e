/- Package shift: contracts. -/
import Derived.Test.YtnfcoikbkmhggaaGreatPlan
set_option linter.all false
set_option linter.unusedVariables false
set_option linter.unusedSimpArgs false
namespace Go.Proofs
open Go.BL
variable {F h : Hp} {c : Cf} {A : CA}
theorem iteC {p : Prop} [Decidable p] {x y : Nat} : (((if p then x else y : Nat)) : Int) = if p then (x : Int) else (y : Int) := by split <;> rfl
abbrev shl (lim av : Nat) (nd n saw : Int) (sv : Value) (p : Int) (a : Ans) : List Value :=
  [.int .i64 lim, .int .i64 av, .int .i64 nd, .int .i64 n, .int .i64 saw, sv, .int .i64 p, .int .i64 a.err, .int .i64 a.n, .bool a.exact, .int .i64 a.node]
abbrev shSteps : ShK → List Value
  | .refund => [.func (.func 248) #[] #[]]
  | .raise => [.func (.func 246) #[] #[], .func (.func 247) #[] #[], .func (.func 248) #[] #[]]
  | .lower => [.func (.func 249) #[] #[], .func (.func 250) #[] #[], .func (.func 251) #[] #[]]
/-- A shift's machine behind block b. -/
def ShR (b : Nat) (s : Sh) : HProp := fun h => ∃ sb, Own [pt b (.cells (shl s.limit s.avail s.node s.n s.saw (.slice (some ⟨sb, 0, none⟩) s.k.len s.k.len) s.pos s.ans).toArray 292 (0, 0)), pt sb (.cells (shSteps s.k).toArray 345 (0, 0))] h

theorem sh_on {t : Bool} : CallS Tryz.prog F 284 [.bool t].toArray h fun v h' => v = .int .i64 (if t = true then 1 else -1) := by
  refine callS_intro Tryz.func284 rfl rfl rfl fun C G => ?_
  repeat refine ur_seq ?_
  refine ur_region rfl ?_
  refine ur_opw rfl rfl rfl rfl rfl (opv_assign rfl rfl ?_)
  refine ur_region_end ?_
  repeat refine ur_seq ?_
  refine ur_region rfl ?_
  refine ur_opw rfl rfl rfl rfl rfl (opv_move rfl rfl ?_)
  refine ur_region_end ?_
  repeat refine ur_seq ?_
  refine ur_cond rfl (fun hc1 => ?_) (fun hc1 => ?_)
  · -- yes
    try simp only [decide_eq_true_eq, decide_eq_false_iff_not, Bool.not_eq_true', Bool.not_eq_false', beq_iff_eq, bne_iff_ne, beq_eq_false_iff_ne, bne_eq_false_iff_eq, ne_eq, Decidable.not_not] at hc1
    repeat refine ur_seq ?_
    refine ur_region rfl ?_
    refine ur_opw rfl rfl rfl rfl rfl (opv_assign rfl rfl ?_)
    refine ur_region_end ?_
    exact ur_ret1 G Tryz.func284 rfl rfl (by simp [*])
  · -- no
    try simp only [decide_eq_true_eq, decide_eq_false_iff_not, Bool.not_eq_true', Bool.not_eq_false', beq_iff_eq, bne_iff_ne, beq_eq_false_iff_ne, bne_eq_false_iff_eq, ne_eq, Decidable.not_not] at hc1
    refine ur_skip ?_
    repeat refine ur_seq ?_
    refine ur_region rfl ?_
    refine ur_opw rfl rfl rfl rfl rfl (opv_assign rfl rfl ?_)
    refine ur_region_end ?_
    exact ur_ret1 G Tryz.func284 rfl rfl (by simp [*])

theorem sh_more {b mb m lim av : Nat} {nd n saw p : Int} {sv : Value} {a : Ans} {ws : List Int} (hm : m < 2 ^ 30) (hl : av < ws.length) (H : Own [pt b (.cells (shl lim av nd n saw sv p a).toArray 292 (0, 0)), MemR mb ws m] h) : CallS Tryz.prog F 248 [.pointer (some ⟨b, 0, none⟩), .pointer (some ⟨mb, 0, none⟩)].toArray h fun v h' => v = .int .i64 9 ∧ Own [pt b (.cells (shl lim av nd n saw sv p a).toArray 292 (0, 0)), MemR mb (addW ws av n) (m + 1)] h' := by
  refine callS_intro Tryz.func248 rfl rfl rfl fun C G => ?_
  repeat refine ur_seq ?_
  refine ur_region rfl ?_
  refine ur_opw rfl rfl rfl rfl rfl (opv_assign rfl rfl ?_)
  refine ur_region_end ?_
  repeat refine ur_seq ?_
  refine ur_draw Tryz.mixed (by kernel_rfl) ?_
  refine ud_all [0, 1, 2, 3, 4, 5, 6, 7, 8] (by kernel_rfl) (by kernel_rfl) H fun F1 hF1 HF => ?_
  refine to_free rfl rfl rfl rfl rfl (fun _ _ hk => opv_move rfl rfl hk) ?_
  refine to_free rfl rfl rfl rfl rfl (fun _ _ hk => opv_move rfl rfl hk) ?_
  refine to_free rfl rfl rfl rfl rfl (fun _ _ hk => opv_nilCheck rfl rfl hk) ?_
  refine to_free rfl rfl rfl rfl rfl (fun _ _ hk => opv_fieldAddr0 rfl rfl rfl hk) ?_
  refine to_free rfl rfl rfl rfl rfl (fun _ _ hk => opv_load1 (by first | exact .inr (Has.has HF) | exact .inr (Has.has HR1) | exact .inr (Has.has (HR.mono hF1))) rfl rfl rfl hk) ?_
  refine to_free rfl rfl rfl rfl rfl (fun _ _ hk => opv_move rfl rfl hk) ?_
  refine to_free rfl rfl rfl rfl rfl (fun _ _ hk => opv_nilCheck rfl rfl hk) ?_
  refine to_free rfl rfl rfl rfl rfl (fun _ _ hk => opv_fieldAddr0 rfl rfl rfl hk) ?_
  refine to_free rfl rfl rfl rfl rfl (fun _ _ hk => opv_load1 (by first | exact .inr (Has.has HF) | exact .inr (Has.has HR1) | exact .inr (Has.has (HR.mono hF1))) rfl rfl rfl hk) ?_
  refine to_end ?_
  refine ud_op 9 (by kernel_rfl) (by kernel_rfl) rfl rfl rfl rfl (opv_call rfl rfl rfl (opv_to [] [1] H (fun F1 h1 hF HR1 H1 => madd (rd_some hl) hm H1) ?_))
  rintro v h1 h ⟨rfl, H1⟩ J
  have H := J H1
  refine ud_end (by kernel_rfl) ?_
  repeat refine ur_seq ?_
  refine ur_region rfl ?_
  refine ur_opw rfl rfl rfl rfl rfl (opv_assign rfl rfl ?_)
  refine ur_region_end ?_
  exact ur_ret1 G Tryz.func248 rfl rfl ⟨rfl, H.bring [1]⟩

theorem sh_down {b mb m lim av : Nat} {nd n saw p : Int} {sv : Value} {a : Ans} {ws : List Int} (hm : m < 2 ^ 30) (hl : lim < ws.length) (H : Own [pt b (.cells (shl lim av nd n saw sv p a).toArray 292 (0, 0)), MemR mb ws m] h) : CallS Tryz.prog F 251 [.pointer (some ⟨b, 0, none⟩), .pointer (some ⟨mb, 0, none⟩)].toArray h fun v h' => v = .int .i64 9 ∧ Own [pt b (.cells (shl lim av nd n saw sv p a).toArray 292 (0, 0)), MemR mb (addW ws lim (w64 (0 - n))) (m + 1)] h' := by
  refine callS_intro Tryz.func251 rfl rfl rfl fun C G => ?_
  repeat refine ur_seq ?_
  refine ur_region rfl ?_
  refine ur_opw rfl rfl rfl rfl rfl (opv_assign rfl rfl ?_)
  refine ur_region_end ?_
  repeat refine ur_seq ?_
  refine ur_draw Tryz.mixed (by kernel_rfl) ?_
  refine ud_all [0, 1, 2, 3, 4, 5, 6, 7, 8, 9] (by kernel_rfl) (by kernel_rfl) H fun F1 hF1 HF => ?_
  refine to_free rfl rfl rfl rfl rfl (fun _ _ hk => opv_move rfl rfl hk) ?_
  refine to_free rfl rfl rfl rfl rfl (fun _ _ hk => opv_move rfl rfl hk) ?_
  refine to_free rfl rfl rfl rfl rfl (fun _ _ hk => opv_nilCheck rfl rfl hk) ?_
  refine to_free rfl rfl rfl rfl rfl (fun _ _ hk => opv_fieldAddr0 rfl rfl rfl hk) ?_
  refine to_free rfl rfl rfl rfl rfl (fun _ _ hk => opv_load1 (by first | exact .inr (Has.has HF) | exact .inr (Has.has HR1) | exact .inr (Has.has (HR.mono hF1))) rfl rfl rfl hk) ?_
  refine to_free rfl rfl rfl rfl rfl (fun _ _ hk => opv_move rfl rfl hk) ?_
  refine to_free rfl rfl rfl rfl rfl (fun _ _ hk => opv_nilCheck rfl rfl hk) ?_
  refine to_free rfl rfl rfl rfl rfl (fun _ _ hk => opv_fieldAddr0 rfl rfl rfl hk) ?_
  refine to_free rfl rfl rfl rfl rfl (fun _ _ hk => opv_load1 (by first | exact .inr (Has.has HF) | exact .inr (Has.has HR1) | exact .inr (Has.has (HR.mono hF1))) rfl rfl rfl hk) ?_
  refine to_free rfl rfl rfl rfl rfl (fun _ _ hk => opv_neg rfl rfl (by first | exact wi (by omega) | rfl) hk) ?_
  refine to_end ?_
  refine ud_op 10 (by kernel_rfl) (by kernel_rfl) rfl rfl rfl rfl (opv_call rfl rfl rfl (opv_to [] [1] H (fun F1 h1 hF HR1 H1 => madd (d := w64 (0 - n)) (rd_some hl) hm H1) ?_))
  rintro v h1 h ⟨rfl, H1⟩ J
  have H := J H1
  refine ud_end (by kernel_rfl) ?_
  repeat refine ur_seq ?_
  refine ur_region rfl ?_
  refine ur_opw rfl rfl rfl rfl rfl (opv_assign rfl rfl ?_)
  refine ur_region_end ?_
  exact ur_ret1 G Tryz.func251 rfl rfl ⟨rfl, H.bring [1]⟩

theorem sh_up {b mb m lim av : Nat} {nd n saw p : Int} {sv : Value} {a : Ans} {ws : List Int} (hm : m < 2 ^ 30) (hl : lim < ws.length) (H : Own [pt b (.cells (shl lim av nd n saw sv p a).toArray 292 (0, 0)), MemR mb ws m] h) : CallS Tryz.prog F 247 [.pointer (some ⟨b, 0, none⟩), .pointer (some ⟨mb, 0, none⟩)].toArray h fun v h' => v = .int .i64 (if rd ws lim = saw then 1 else -1) ∧ Own [pt b (.cells (shl lim av nd n saw sv p a).toArray 292 (0, 0)), MemR mb (casW ws lim saw (w64 (saw + n))) (m + 1)] h' := by
  refine callS_intro Tryz.func247 rfl rfl rfl fun C G => ?_
  repeat refine ur_seq ?_
  refine ur_region rfl ?_
  refine ur_opw rfl rfl rfl rfl rfl (opv_assign rfl rfl ?_)
  refine ur_region_end ?_
  repeat refine ur_seq ?_
  refine ur_draw Tryz.mixed (by kernel_rfl) ?_
  refine ud_all [0, 1, 2, 3, 4, 5, 6, 7, 8, 9, 10, 11, 12, 13, 14, 15, 16, 17] (by kernel_rfl) (by kernel_rfl) H fun F1 hF1 HF => ?_
  refine to_free rfl rfl rfl rfl rfl (fun _ _ hk => opv_move rfl rfl hk) ?_
  refine to_free rfl rfl rfl rfl rfl (fun _ _ hk => opv_move rfl rfl hk) ?_
  refine to_free rfl rfl rfl rfl rfl (fun _ _ hk => opv_nilCheck rfl rfl hk) ?_
  refine to_free rfl rfl rfl rfl rfl (fun _ _ hk => opv_fieldAddr0 rfl rfl rfl hk) ?_
  refine to_free rfl rfl rfl rfl rfl (fun _ _ hk => opv_load1 (by first | exact .inr (Has.has HF) | exact .inr (Has.has HR1) | exact .inr (Has.has (HR.mono hF1))) rfl rfl rfl hk) ?_
  refine to_free rfl rfl rfl rfl rfl (fun _ _ hk => opv_move rfl rfl hk) ?_
  refine to_free rfl rfl rfl rfl rfl (fun _ _ hk => opv_nilCheck rfl rfl hk) ?_
  refine to_free rfl rfl rfl rfl rfl (fun _ _ hk => opv_fieldAddr0 rfl rfl rfl hk) ?_
  refine to_free rfl rfl rfl rfl rfl (fun _ _ hk => opv_load1 (by first | exact .inr (Has.has HF) | exact .inr (Has.has HR1) | exact .inr (Has.has (HR.mono hF1))) rfl rfl rfl hk) ?_
  refine to_free rfl rfl rfl rfl rfl (fun _ _ hk => opv_move rfl rfl hk) ?_
  refine to_free rfl rfl rfl rfl rfl (fun _ _ hk => opv_nilCheck rfl rfl hk) ?_
  refine to_free rfl rfl rfl rfl rfl (fun _ _ hk => opv_fieldAddr0 rfl rfl rfl hk) ?_
  refine to_free rfl rfl rfl rfl rfl (fun _ _ hk => opv_load1 (by first | exact .inr (Has.has HF) | exact .inr (Has.has HR1) | exact .inr (Has.has (HR.mono hF1))) rfl rfl rfl hk) ?_
  refine to_free rfl rfl rfl rfl rfl (fun _ _ hk => opv_move rfl rfl hk) ?_
  refine to_free rfl rfl rfl rfl rfl (fun _ _ hk => opv_nilCheck rfl rfl hk) ?_
  refine to_free rfl rfl rfl rfl rfl (fun _ _ hk => opv_fieldAddr0 rfl rfl rfl hk) ?_
  refine to_free rfl rfl rfl rfl rfl (fun _ _ hk => opv_load1 (by first | exact .inr (Has.has HF) | exact .inr (Has.has HR1) | exact .inr (Has.has (HR.mono hF1))) rfl rfl rfl hk) ?_
  refine to_free rfl rfl rfl rfl rfl (fun _ _ hk => opv_arith rfl rfl rfl rfl rfl hk) ?_
  refine to_end ?_
  refine ud_op 18 (by kernel_rfl) (by kernel_rfl) rfl rfl rfl rfl (opv_call rfl rfl rfl (opv_to [] [1] H (fun F1 h1 hF HR1 H1 => mcas (y := w64 (saw + n)) (rd_some hl) hm H1) ?_))
  rintro v h1 h ⟨rfl, H1⟩ J
  have H := J H1
  refine ud_op 19 (by kernel_rfl) (by kernel_rfl) rfl rfl rfl rfl (opv_call rfl rfl rfl (opv_to [] [] H (fun F1 h1 hF HR1 H1 => sh_on) ?_))
  rintro v h1 h ⟨rfl⟩ J
  have H := J (LN := []) trivial
  refine ud_op 20 (by kernel_rfl) (by kernel_rfl) rfl rfl rfl rfl (opv_assign rfl rfl ?_)
  refine ud_end (by kernel_rfl) ?_
  refine ur_ret1 G Tryz.func247 rfl rfl ⟨?_, H.bring [1]⟩
  simp only [beq_iff_eq]

theorem sh_out {b mb m lim av : Nat} {nd n saw p : Int} {sv : Value} {a : Ans} {ws : List Int} (hm : m < 2 ^ 30) (hl : av < ws.length) (H : Own [pt b (.cells (shl lim av nd n saw sv p a).toArray 292 (0, 0)), MemR mb ws m] h) : CallS Tryz.prog F 250 [.pointer (some ⟨b, 0, none⟩), .pointer (some ⟨mb, 0, none⟩)].toArray h fun v h' => v = .int .i64 (if rd ws av = saw then 1 else -1) ∧ Own [pt b (.cells (shl lim av nd n saw sv p a).toArray 292 (0, 0)), MemR mb (casW ws av saw (w64 (saw - n))) (m + 1)] h' := by
  refine callS_intro Tryz.func250 rfl rfl rfl fun C G => ?_
  repeat refine ur_seq ?_
  refine ur_region rfl ?_
  refine ur_opw rfl rfl rfl rfl rfl (opv_assign rfl rfl ?_)
  refine ur_region_end ?_
  repeat refine ur_seq ?_
  refine ur_draw Tryz.mixed (by kernel_rfl) ?_
  refine ud_all [0, 1, 2, 3, 4, 5, 6, 7, 8, 9, 10, 11, 12, 13, 14, 15, 16, 17] (by kernel_rfl) (by kernel_rfl) H fun F1 hF1 HF => ?_
  refine to_free rfl rfl rfl rfl rfl (fun _ _ hk => opv_move rfl rfl hk) ?_
  refine to_free rfl rfl rfl rfl rfl (fun _ _ hk => opv_move rfl rfl hk) ?_
  refine to_free rfl rfl rfl rfl rfl (fun _ _ hk => opv_nilCheck rfl rfl hk) ?_
  refine to_free rfl rfl rfl rfl rfl (fun _ _ hk => opv_fieldAddr0 rfl rfl rfl hk) ?_
  refine to_free rfl rfl rfl rfl rfl (fun _ _ hk => opv_load1 (by first | exact .inr (Has.has HF) | exact .inr (Has.has HR1) | exact .inr (Has.has (HR.mono hF1))) rfl rfl rfl hk) ?_
  refine to_free rfl rfl rfl rfl rfl (fun _ _ hk => opv_move rfl rfl hk) ?_
  refine to_free rfl rfl rfl rfl rfl (fun _ _ hk => opv_nilCheck rfl rfl hk) ?_
  refine to_free rfl rfl rfl rfl rfl (fun _ _ hk => opv_fieldAddr0 rfl rfl rfl hk) ?_
  refine to_free rfl rfl rfl rfl rfl (fun _ _ hk => opv_load1 (by first | exact .inr (Has.has HF) | exact .inr (Has.has HR1) | exact .inr (Has.has (HR.mono hF1))) rfl rfl rfl hk) ?_
  refine to_free rfl rfl rfl rfl rfl (fun _ _ hk => opv_move rfl rfl hk) ?_
  refine to_free rfl rfl rfl rfl rfl (fun _ _ hk => opv_nilCheck rfl rfl hk) ?_
  refine to_free rfl rfl rfl rfl rfl (fun _ _ hk => opv_fieldAddr0 rfl rfl rfl hk) ?_
  refine to_free rfl rfl rfl rfl rfl (fun _ _ hk => opv_load1 (by first | exact .inr (Has.has HF) | exact .inr (Has.has HR1) | exact .inr (Has.has (HR.mono hF1))) rfl rfl rfl hk) ?_
  refine to_free rfl rfl rfl rfl rfl (fun _ _ hk => opv_move rfl rfl hk) ?_
  refine to_free rfl rfl rfl rfl rfl (fun _ _ hk => opv_nilCheck rfl rfl hk) ?_
  refine to_free rfl rfl rfl rfl rfl (fun _ _ hk => opv_fieldAddr0 rfl rfl rfl hk) ?_
  refine to_free rfl rfl rfl rfl rfl (fun _ _ hk => opv_load1 (by first | exact .inr (Has.has HF) | exact .inr (Has.has HR1) | exact .inr (Has.has (HR.mono hF1))) rfl rfl rfl hk) ?_
  refine to_free rfl rfl rfl rfl rfl (fun _ _ hk => opv_arith rfl rfl rfl rfl rfl hk) ?_
  refine to_end ?_
  refine ud_op 18 (by kernel_rfl) (by kernel_rfl) rfl rfl rfl rfl (opv_call rfl rfl rfl (opv_to [] [1] H (fun F1 h1 hF HR1 H1 => mcas (y := w64 (saw - n)) (rd_some hl) hm H1) ?_))
  rintro v h1 h ⟨rfl, H1⟩ J
  have H := J H1
  refine ud_op 19 (by kernel_rfl) (by kernel_rfl) rfl rfl rfl rfl (opv_call rfl rfl rfl (opv_to [] [] H (fun F1 h1 hF HR1 H1 => sh_on) ?_))
  rintro v h1 h ⟨rfl⟩ J
  have H := J (LN := []) trivial
  refine ud_op 20 (by kernel_rfl) (by kernel_rfl) rfl rfl rfl rfl (opv_assign rfl rfl ?_)
  refine ud_end (by kernel_rfl) ?_
  refine ur_ret1 G Tryz.func250 rfl rfl ⟨?_, H.bring [1]⟩
  simp only [beq_iff_eq]

theorem sh_height {b mb m lim av : Nat} {nd n saw p : Int} {sv : Value} {a : Ans} {ws : List Int} (hm : m < 2 ^ 30) (hl : lim < ws.length) (H : Own [pt b (.cells (shl lim av nd n saw sv p a).toArray 292 (0, 0)), MemR mb ws m] h) : CallS Tryz.prog F 246 [.pointer (some ⟨b, 0, none⟩), .pointer (some ⟨mb, 0, none⟩)].toArray h fun v h' => v = .int .i64 (if rd ws lim > w64 (1099511627776 - n) then 9 else 1) ∧ Own [pt b (.cells (shl lim av nd n (rd ws lim) sv p (if rd ws lim > w64 (1099511627776 - n) then ⟨6, 0, false, 0⟩ else a)).toArray 292 (0, 0)), MemR mb ws (m + 1)] h' := by
  refine callS_intro Tryz.func246 rfl rfl rfl fun C G => ?_
  repeat refine ur_seq ?_
  refine ur_region rfl ?_
  refine ur_opw rfl rfl rfl rfl rfl (opv_assign rfl rfl ?_)
  refine ur_region_end ?_
  repeat refine ur_seq ?_
  refine ur_region rfl ?_
  refine ur_opw rfl rfl rfl rfl rfl (opv_move rfl rfl ?_)
  refine ur_opw rfl rfl rfl rfl rfl (opv_move rfl rfl ?_)
  refine ur_opw rfl rfl rfl rfl rfl (opv_move rfl rfl ?_)
  refine ur_opw rfl rfl rfl rfl rfl (opv_nilCheck rfl rfl ?_)
  refine ur_opw rfl rfl rfl rfl rfl (opv_fieldAddr0 rfl rfl rfl ?_)
  refine ur_opw rfl rfl rfl rfl rfl (opv_load1 (by first | exact .inl (Has.has H) | exact .inr (Has.has HR)) rfl rfl rfl ?_)
  refine ur_opw rfl rfl rfl rfl rfl (opv_call rfl rfl rfl (opv_to [] [1] H (fun F1 h1 hF HR1 H1 => mload (rd_some hl) hm H1) ?_))
  rintro v h1 h ⟨rfl, H1⟩ J
  have H := J H1
  have H := H.bring [1]
  refine ur_opw rfl rfl rfl rfl rfl (opv_nilCheck rfl rfl ?_)
  refine ur_opw rfl rfl rfl rfl rfl (opv_fieldAddr0 rfl rfl rfl ?_)
  refine ur_opw0 rfl rfl rfl rfl (opv_store H rfl rfl rfl rfl rfl rfl rfl fun h H => ?_)
  refine ur_region_end ?_
  repeat refine ur_seq ?_
  refine ur_draw Tryz.mixed (by kernel_rfl) ?_
  refine ud_all [0, 1, 2, 3, 4, 5, 6, 7, 8] (by kernel_rfl) (by kernel_rfl) H fun F1 hF1 HF => ?_
  refine to_free rfl rfl rfl rfl rfl (fun _ _ hk => opv_move rfl rfl hk) ?_
  refine to_free rfl rfl rfl rfl rfl (fun _ _ hk => opv_nilCheck rfl rfl hk) ?_
  refine to_free rfl rfl rfl rfl rfl (fun _ _ hk => opv_fieldAddr0 rfl rfl rfl hk) ?_
  refine to_free rfl rfl rfl rfl rfl (fun _ _ hk => opv_load1 (by first | exact .inr (Has.has HF) | exact .inr (Has.has HR1) | exact .inr (Has.has (HR.mono hF1))) rfl rfl rfl hk) ?_
  refine to_free rfl rfl rfl rfl rfl (fun _ _ hk => opv_move rfl rfl hk) ?_
  refine to_free rfl rfl rfl rfl rfl (fun _ _ hk => opv_nilCheck rfl rfl hk) ?_
  refine to_free rfl rfl rfl rfl rfl (fun _ _ hk => opv_fieldAddr0 rfl rfl rfl hk) ?_
  refine to_free rfl rfl rfl rfl rfl (fun _ _ hk => opv_load1 (by first | exact .inr (Has.has HF) | exact .inr (Has.has HR1) | exact .inr (Has.has (HR.mono hF1))) rfl rfl rfl hk) ?_
  refine to_free rfl rfl rfl rfl rfl (fun _ _ hk => opv_arith rfl rfl rfl rfl rfl hk) ?_
  refine to_end ?_
  refine ud_op 9 (by kernel_rfl) (by kernel_rfl) rfl rfl rfl rfl (opv_cmp rfl rfl rfl rfl ?_)
  refine ud_end (by kernel_rfl) ?_
  repeat refine ur_seq ?_
  refine ur_cond rfl (fun hc1 => ?_) (fun hc1 => ?_)
  · -- yes
    try simp only [decide_eq_true_eq, decide_eq_false_iff_not, Bool.not_eq_true', Bool.not_eq_false', beq_iff_eq, bne_iff_ne, beq_eq_false_iff_ne, bne_eq_false_iff_eq, ne_eq, Decidable.not_not] at hc1
    repeat refine ur_seq ?_
    refine ur_region rfl ?_
    refine ur_opw rfl rfl rfl rfl rfl (opv_move rfl rfl ?_)
    refine ur_opw rfl rfl rfl rfl rfl (opv_build rfl rfl ?_)
    refine ur_opw rfl rfl rfl rfl rfl (opv_nilCheck rfl rfl ?_)
    refine ur_opw rfl rfl rfl rfl rfl (opv_fieldAddr0 rfl rfl rfl ?_)
    refine ur_opw0 rfl rfl rfl rfl (opv_store H rfl rfl rfl rfl rfl rfl rfl fun h H => ?_)
    refine ur_region_end ?_
    repeat refine ur_seq ?_
    refine ur_region rfl ?_
    refine ur_opw rfl rfl rfl rfl rfl (opv_assign rfl rfl ?_)
    refine ur_region_end ?_
    exact ur_ret1 G Tryz.func246 rfl rfl (by first | (have q : rd ws lim > w64 (1099511627776 - n) := hc1; rw [if_pos q, if_pos q]; exact ⟨rfl, H⟩) | (have q : ¬ (rd ws lim > w64 (1099511627776 - n)) := hc1; rw [if_neg q, if_neg q]; exact ⟨rfl, H⟩))
  · -- no
    try simp only [decide_eq_true_eq, decide_eq_false_iff_not, Bool.not_eq_true', Bool.not_eq_false', beq_iff_eq, bne_iff_ne, beq_eq_false_iff_ne, bne_eq_false_iff_eq, ne_eq, Decidable.not_not] at hc1
    refine ur_skip ?_
    repeat refine ur_seq ?_
    refine ur_region rfl ?_
    refine ur_opw rfl rfl rfl rfl rfl (opv_assign rfl rfl ?_)
    refine ur_region_end ?_
    exact ur_ret1 G Tryz.func246 rfl rfl (by first | (have q : rd ws lim > w64 (1099511627776 - n) := hc1; rw [if_pos q, if_pos q]; exact ⟨rfl, H⟩) | (have q : ¬ (rd ws lim > w64 (1099511627776 - n)) := hc1; rw [if_neg q, if_neg q]; exact ⟨rfl, H⟩))

theorem sh_rest {b mb m lim av : Nat} {nd n saw p : Int} {sv : Value} {a : Ans} {ws : List Int} (hm : m < 2 ^ 30) (hl : av < ws.length) (H : Own [pt b (.cells (shl lim av nd n saw sv p a).toArray 292 (0, 0)), MemR mb ws m] h) : CallS Tryz.prog F 249 [.pointer (some ⟨b, 0, none⟩), .pointer (some ⟨mb, 0, none⟩)].toArray h fun v h' => v = .int .i64 (if rd ws av < n then 9 else 1) ∧ Own [pt b (.cells (shl lim av nd n (rd ws av) sv p (if rd ws av < n then ⟨4, 0, false, nd⟩ else a)).toArray 292 (0, 0)), MemR mb ws (m + 1)] h' := by
  refine callS_intro Tryz.func249 rfl rfl rfl fun C G => ?_
  repeat refine ur_seq ?_
  refine ur_region rfl ?_
  refine ur_opw rfl rfl rfl rfl rfl (opv_assign rfl rfl ?_)
  refine ur_region_end ?_
  repeat refine ur_seq ?_
  refine ur_region rfl ?_
  refine ur_opw rfl rfl rfl rfl rfl (opv_move rfl rfl ?_)
  refine ur_opw rfl rfl rfl rfl rfl (opv_move rfl rfl ?_)
  refine ur_opw rfl rfl rfl rfl rfl (opv_move rfl rfl ?_)
  refine ur_opw rfl rfl rfl rfl rfl (opv_nilCheck rfl rfl ?_)
  refine ur_opw rfl rfl rfl rfl rfl (opv_fieldAddr0 rfl rfl rfl ?_)
  refine ur_opw rfl rfl rfl rfl rfl (opv_load1 (by first | exact .inl (Has.has H) | exact .inr (Has.has HR)) rfl rfl rfl ?_)
  refine ur_opw rfl rfl rfl rfl rfl (opv_call rfl rfl rfl (opv_to [] [1] H (fun F1 h1 hF HR1 H1 => mload (rd_some hl) hm H1) ?_))
  rintro v h1 h ⟨rfl, H1⟩ J
  have H := J H1
  have H := H.bring [1]
  refine ur_opw rfl rfl rfl rfl rfl (opv_nilCheck rfl rfl ?_)
  refine ur_opw rfl rfl rfl rfl rfl (opv_fieldAddr0 rfl rfl rfl ?_)
  refine ur_opw0 rfl rfl rfl rfl (opv_store H rfl rfl rfl rfl rfl rfl rfl fun h H => ?_)
  refine ur_region_end ?_
  repeat refine ur_seq ?_
  refine ur_draw Tryz.mixed (by kernel_rfl) ?_
  refine ud_all [0, 1, 2, 3, 4, 5, 6, 7] (by kernel_rfl) (by kernel_rfl) H fun F1 hF1 HF => ?_
  refine to_free rfl rfl rfl rfl rfl (fun _ _ hk => opv_move rfl rfl hk) ?_
  refine to_free rfl rfl rfl rfl rfl (fun _ _ hk => opv_nilCheck rfl rfl hk) ?_
  refine to_free rfl rfl rfl rfl rfl (fun _ _ hk => opv_fieldAddr0 rfl rfl rfl hk) ?_
  refine to_free rfl rfl rfl rfl rfl (fun _ _ hk => opv_load1 (by first | exact .inr (Has.has HF) | exact .inr (Has.has HR1) | exact .inr (Has.has (HR.mono hF1))) rfl rfl rfl hk) ?_
  refine to_free rfl rfl rfl rfl rfl (fun _ _ hk => opv_move rfl rfl hk) ?_
  refine to_free rfl rfl rfl rfl rfl (fun _ _ hk => opv_nilCheck rfl rfl hk) ?_
  refine to_free rfl rfl rfl rfl rfl (fun _ _ hk => opv_fieldAddr0 rfl rfl rfl hk) ?_
  refine to_free rfl rfl rfl rfl rfl (fun _ _ hk => opv_load1 (by first | exact .inr (Has.has HF) | exact .inr (Has.has HR1) | exact .inr (Has.has (HR.mono hF1))) rfl rfl rfl hk) ?_
  refine to_end ?_
  refine ud_op 8 (by kernel_rfl) (by kernel_rfl) rfl rfl rfl rfl (opv_cmp rfl rfl rfl rfl ?_)
  refine ud_end (by kernel_rfl) ?_
  repeat refine ur_seq ?_
  refine ur_cond rfl (fun hc1 => ?_) (fun hc1 => ?_)
  · -- yes
    try simp only [decide_eq_true_eq, decide_eq_false_iff_not, Bool.not_eq_true', Bool.not_eq_false', beq_iff_eq, bne_iff_ne, beq_eq_false_iff_ne, bne_eq_false_iff_eq, ne_eq, Decidable.not_not] at hc1
    repeat refine ur_seq ?_
    refine ur_region rfl ?_
    refine ur_opw rfl rfl rfl rfl rfl (opv_move rfl rfl ?_)
    refine ur_opw rfl rfl rfl rfl rfl (opv_move rfl rfl ?_)
    refine ur_opw rfl rfl rfl rfl rfl (opv_nilCheck rfl rfl ?_)
    refine ur_opw rfl rfl rfl rfl rfl (opv_fieldAddr0 rfl rfl rfl ?_)
    refine ur_opw rfl rfl rfl rfl rfl (opv_load1 (by first | exact .inl (Has.has H) | exact .inr (Has.has HR)) rfl rfl rfl ?_)
    refine ur_opw rfl rfl rfl rfl rfl (opv_build rfl rfl ?_)
    refine ur_opw rfl rfl rfl rfl rfl (opv_nilCheck rfl rfl ?_)
    refine ur_opw rfl rfl rfl rfl rfl (opv_fieldAddr0 rfl rfl rfl ?_)
    refine ur_opw0 rfl rfl rfl rfl (opv_store H rfl rfl rfl rfl rfl rfl rfl fun h H => ?_)
    refine ur_region_end ?_
    repeat refine ur_seq ?_
    refine ur_region rfl ?_
    refine ur_opw rfl rfl rfl rfl rfl (opv_assign rfl rfl ?_)
    refine ur_region_end ?_
    exact ur_ret1 G Tryz.func249 rfl rfl (by first | (have q : rd ws av < n := hc1; rw [if_pos q, if_pos q]; exact ⟨rfl, H⟩) | (have q : ¬ (rd ws av < n) := hc1; rw [if_neg q, if_neg q]; exact ⟨rfl, H⟩))
  · -- no
    try simp only [decide_eq_true_eq, decide_eq_false_iff_not, Bool.not_eq_true', Bool.not_eq_false', beq_iff_eq, bne_iff_ne, beq_eq_false_iff_ne, bne_eq_false_iff_eq, ne_eq, Decidable.not_not] at hc1
    refine ur_skip ?_
    repeat refine ur_seq ?_
    refine ur_region rfl ?_
    refine ur_opw rfl rfl rfl rfl rfl (opv_assign rfl rfl ?_)
    refine ur_region_end ?_
    exact ur_ret1 G Tryz.func249 rfl rfl (by first | (have q : rd ws av < n := hc1; rw [if_pos q, if_pos q]; exact ⟨rfl, H⟩) | (have q : ¬ (rd ws av < n) := hc1; rw [if_neg q, if_neg q]; exact ⟨rfl, H⟩))

theorem sh_step_refund0 {b mb m lim av sb : Nat} {nd n saw : Int} {a : Ans} {ws : List Int} (hm : m < 2 ^ 30) (hlm : lim < ws.length) (hav : av < ws.length) (H : Own [pt b (.cells (shl lim av nd n saw (.slice (some ⟨sb, 0, none⟩) 1 1) 0 a).toArray 292 (0, 0)), pt sb (.cells (shSteps .refund).toArray 345 (0, 0)), MemR mb ws m] h) : CallS Tryz.prog F 367 [.pointer (some ⟨b, 0, none⟩), .pointer (some ⟨mb, 0, none⟩)].toArray h fun v h' => v = .bool (decide (9 ≥ (1 : Int))) ∧ Own [pt b (.cells (shl lim av nd n saw (.slice (some ⟨sb, 0, none⟩) 1 1) 9 a).toArray 292 (0, 0)), MemR mb (addW ws av n) (m + 1), pt sb (.cells (shSteps .refund).toArray 345 (0, 0))] h' := by
  refine callS_intro Tryz.func367 rfl rfl rfl fun C G => ?_
  repeat refine ur_seq ?_
  refine ur_region rfl ?_
  refine ur_opw rfl rfl rfl rfl rfl (opv_assign rfl rfl ?_)
  refine ur_region_end ?_
  repeat refine ur_seq ?_
  refine ur_draw Tryz.mixed (by kernel_rfl) ?_
  refine ud_all [0, 1, 2, 3, 4, 5, 6, 7, 8] (by kernel_rfl) (by kernel_rfl) H fun F1 hF1 HF => ?_
  refine to_free rfl rfl rfl rfl rfl (fun _ _ hk => opv_move rfl rfl hk) ?_
  refine to_free rfl rfl rfl rfl rfl (fun _ _ hk => opv_nilCheck rfl rfl hk) ?_
  refine to_free rfl rfl rfl rfl rfl (fun _ _ hk => opv_fieldAddr0 rfl rfl rfl hk) ?_
  refine to_free rfl rfl rfl rfl rfl (fun _ _ hk => opv_load1 (by first | exact .inr (Has.has HF) | exact .inr (Has.has HR1) | exact .inr (Has.has (HR.mono hF1))) rfl rfl rfl hk) ?_
  refine to_free rfl rfl rfl rfl rfl (fun _ _ hk => opv_move rfl rfl hk) ?_
  refine to_free rfl rfl rfl rfl rfl (fun _ _ hk => opv_nilCheck rfl rfl hk) ?_
  refine to_free rfl rfl rfl rfl rfl (fun _ _ hk => opv_fieldAddr0 rfl rfl rfl hk) ?_
  refine to_free rfl rfl rfl rfl rfl (fun _ _ hk => opv_load1 (by first | exact .inr (Has.has HF) | exact .inr (Has.has HR1) | exact .inr (Has.has (HR.mono hF1))) rfl rfl rfl hk) ?_
  refine to_free rfl rfl rfl rfl rfl (fun _ _ hk => opv_len rfl rfl hk) ?_
  refine to_end ?_
  refine ud_op 9 (by kernel_rfl) (by kernel_rfl) rfl rfl rfl rfl (opv_cmp rfl rfl rfl rfl ?_)
  refine ud_end (by kernel_rfl) ?_
  repeat refine ur_seq ?_
  refine ur_cond rfl (fun hc1 => ?_) (fun hc1 => ?_)
  · -- yes
    refine ur_draw Tryz.mixed (by kernel_rfl) ?_
    refine ud_roQ (fun h => CellAt h b 5 (.slice (some ⟨sb, 0, none⟩) 1 1) ∧ CellAt h b 6 (.int .i64 0)) [1] [0, 1, 2, 3, 4, 5, 6, 7, 8, 9, 10, 11, 12, 13, 14, 15, 16] [0, 1, 2, 3, 4, 5, 6, 7, 8, 9, 10, 11, 12, 13, 14, 15] (by kernel_rfl) (by kernel_rfl) H fun F1 h hF1 HF H => ⟨⟨⟨_, _, _, Has.has H, rfl⟩, ⟨_, _, _, Has.has H, rfl⟩⟩, ?_⟩
    refine to_free rfl rfl rfl rfl rfl (fun _ _ hk => opv_move rfl rfl hk) ?_
    refine to_free rfl rfl rfl rfl rfl (fun _ _ hk => opv_nilCheck rfl rfl hk) ?_
    refine to_free rfl rfl rfl rfl rfl (fun _ _ hk => opv_fieldAddr0 rfl rfl rfl hk) ?_
    refine to_freeQ rfl rfl rfl rfl rfl (fun _ _ hq hk => opv_loadQ (hq.2) rfl rfl hk) ?_
    refine to_free rfl rfl rfl rfl rfl (fun _ _ hk => opv_move rfl rfl hk) ?_
    refine to_free rfl rfl rfl rfl rfl (fun _ _ hk => opv_nilCheck rfl rfl hk) ?_
    refine to_free rfl rfl rfl rfl rfl (fun _ _ hk => opv_fieldAddr0 rfl rfl rfl hk) ?_
    refine to_freeQ rfl rfl rfl rfl rfl (fun _ _ hq hk => opv_loadQ (hq.1) rfl rfl hk) ?_
    refine to_free rfl rfl rfl rfl rfl (fun _ _ hk => opv_move rfl rfl hk) ?_
    refine to_free rfl rfl rfl rfl rfl (fun _ _ hk => opv_nilCheck rfl rfl hk) ?_
    refine to_free rfl rfl rfl rfl rfl (fun _ _ hk => opv_fieldAddr0 rfl rfl rfl hk) ?_
    refine to_freeQ rfl rfl rfl rfl rfl (fun _ _ hq hk => opv_loadQ (hq.2) rfl rfl hk) ?_
    refine to_free rfl rfl rfl rfl rfl (fun _ _ hk => opv_indexAt (r := 0) rfl rfl rfl (by decide) (by simp) hk) ?_
    refine to_free rfl rfl rfl rfl rfl (fun _ _ hk => opv_load1 (by first | exact .inr (Has.has HF) | exact .inr (Has.has HR1) | exact .inr (Has.has (HR.mono hF1))) rfl rfl rfl hk) ?_
    refine to_free rfl rfl rfl rfl rfl (fun _ _ hk => opv_move rfl rfl hk) ?_
    refine to_free rfl rfl rfl rfl rfl (fun _ _ hk => opv_move rfl rfl hk) ?_
    refine to_effQ rfl rfl rfl rfl rfl (opv_call rfl rfl rfl (opv_to [] [0, 0] H (fun F2 h1 hF2 HR1 H1 => have hF := Hp.le_trans hF1 hF2; sh_more hm hav H1) ?_))
    rintro v h1 h ⟨rfl, H1⟩ J
    have H := J H1
    refine ⟨⟨⟨_, _, _, Has.has H, rfl⟩, ⟨_, _, _, Has.has H, rfl⟩⟩, ?_⟩
    refine to_end fun h J => ?_
    have H := J H
    refine ud_op 17 (by kernel_rfl) (by kernel_rfl) rfl rfl rfl rfl (opv_arith rfl rfl rfl rfl rfl ?_)
    refine ud_op 18 (by kernel_rfl) (by kernel_rfl) rfl rfl rfl rfl (opv_nilCheck rfl rfl ?_)
    refine ud_op 19 (by kernel_rfl) (by kernel_rfl) rfl rfl rfl rfl (opv_fieldAddr0 rfl rfl rfl ?_)
    refine ud_op0 20 (by kernel_rfl) (by kernel_rfl) rfl rfl rfl rfl (opv_store H rfl rfl rfl rfl rfl rfl rfl fun h H => ?_)
    refine ud_end (by kernel_rfl) ?_
    repeat refine ur_seq ?_
    refine ur_draw Tryz.mixed (by kernel_rfl) ?_
    refine ud_all [0, 1, 2, 3, 4, 5, 6, 7, 8] (by kernel_rfl) (by kernel_rfl) H fun F1 hF1 HF => ?_
    refine to_free rfl rfl rfl rfl rfl (fun _ _ hk => opv_move rfl rfl hk) ?_
    refine to_free rfl rfl rfl rfl rfl (fun _ _ hk => opv_nilCheck rfl rfl hk) ?_
    refine to_free rfl rfl rfl rfl rfl (fun _ _ hk => opv_fieldAddr0 rfl rfl rfl hk) ?_
    refine to_free rfl rfl rfl rfl rfl (fun _ _ hk => opv_load1 (by first | exact .inr (Has.has HF) | exact .inr (Has.has HR1) | exact .inr (Has.has (HR.mono hF1))) rfl rfl rfl hk) ?_
    refine to_free rfl rfl rfl rfl rfl (fun _ _ hk => opv_move rfl rfl hk) ?_
    refine to_free rfl rfl rfl rfl rfl (fun _ _ hk => opv_nilCheck rfl rfl hk) ?_
    refine to_free rfl rfl rfl rfl rfl (fun _ _ hk => opv_fieldAddr0 rfl rfl rfl hk) ?_
    refine to_free rfl rfl rfl rfl rfl (fun _ _ hk => opv_load1 (by first | exact .inr (Has.has HF) | exact .inr (Has.has HR1) | exact .inr (Has.has (HR.mono hF1))) rfl rfl rfl hk) ?_
    refine to_free rfl rfl rfl rfl rfl (fun _ _ hk => opv_len rfl rfl hk) ?_
    refine to_end ?_
    refine ud_op 9 (by kernel_rfl) (by kernel_rfl) rfl rfl rfl rfl (opv_cmp rfl rfl rfl rfl ?_)
    refine ud_op 10 (by kernel_rfl) (by kernel_rfl) rfl rfl rfl rfl (opv_assign rfl rfl ?_)
    refine ud_end (by kernel_rfl) ?_
    have hp : IntKind.i64.wrap (0 + 9) = 9 := rfl
    rw [hp] at H
    refine ur_ret1 G Tryz.func367 rfl rfl ?_
    rw [hp]
    exact ⟨rfl, H.bring [0, 0, 0]⟩
  · -- no
    exact absurd hc1 (by decide)

theorem sh_step_raise0 {b mb m lim av sb : Nat} {nd n saw : Int} {a : Ans} {ws : List Int} (hm : m < 2 ^ 30) (hlm : lim < ws.length) (hav : av < ws.length) (H : Own [pt b (.cells (shl lim av nd n saw (.slice (some ⟨sb, 0, none⟩) 3 3) 0 a).toArray 292 (0, 0)), pt sb (.cells (shSteps .raise).toArray 345 (0, 0)), MemR mb ws m] h) : CallS Tryz.prog F 367 [.pointer (some ⟨b, 0, none⟩), .pointer (some ⟨mb, 0, none⟩)].toArray h fun v h' => v = .bool (decide ((if rd ws lim > w64 (1099511627776 - n) then 9 else 1) ≥ (3 : Int))) ∧ Own [pt b (.cells (shl lim av nd n (rd ws lim) (.slice (some ⟨sb, 0, none⟩) 3 3) (if rd ws lim > w64 (1099511627776 - n) then 9 else 1) (if rd ws lim > w64 (1099511627776 - n) then ⟨6, 0, false, 0⟩ else a)).toArray 292 (0, 0)), MemR mb (ws) (m + 1), pt sb (.cells (shSteps .raise).toArray 345 (0, 0))] h' := by
  refine callS_intro Tryz.func367 rfl rfl rfl fun C G => ?_
  repeat refine ur_seq ?_
  refine ur_region rfl ?_
  refine ur_opw rfl rfl rfl rfl rfl (opv_assign rfl rfl ?_)
  refine ur_region_end ?_
  repeat refine ur_seq ?_
  refine ur_draw Tryz.mixed (by kernel_rfl) ?_
  refine ud_all [0, 1, 2, 3, 4, 5, 6, 7, 8] (by kernel_rfl) (by kernel_rfl) H fun F1 hF1 HF => ?_
  refine to_free rfl rfl rfl rfl rfl (fun _ _ hk => opv_move rfl rfl hk) ?_
  refine to_free rfl rfl rfl rfl rfl (fun _ _ hk => opv_nilCheck rfl rfl hk) ?_
  refine to_free rfl rfl rfl rfl rfl (fun _ _ hk => opv_fieldAddr0 rfl rfl rfl hk) ?_
  refine to_free rfl rfl rfl rfl rfl (fun _ _ hk => opv_load1 (by first | exact .inr (Has.has HF) | exact .inr (Has.has HR1) | exact .inr (Has.has (HR.mono hF1))) rfl rfl rfl hk) ?_
  refine to_free rfl rfl rfl rfl rfl (fun _ _ hk => opv_move rfl rfl hk) ?_
  refine to_free rfl rfl rfl rfl rfl (fun _ _ hk => opv_nilCheck rfl rfl hk) ?_
  refine to_free rfl rfl rfl rfl rfl (fun _ _ hk => opv_fieldAddr0 rfl rfl rfl hk) ?_
  refine to_free rfl rfl rfl rfl rfl (fun _ _ hk => opv_load1 (by first | exact .inr (Has.has HF) | exact .inr (Has.has HR1) | exact .inr (Has.has (HR.mono hF1))) rfl rfl rfl hk) ?_
  refine to_free rfl rfl rfl rfl rfl (fun _ _ hk => opv_len rfl rfl hk) ?_
  refine to_end ?_
  refine ud_op 9 (by kernel_rfl) (by kernel_rfl) rfl rfl rfl rfl (opv_cmp rfl rfl rfl rfl ?_)
  refine ud_end (by kernel_rfl) ?_
  repeat refine ur_seq ?_
  refine ur_cond rfl (fun hc1 => ?_) (fun hc1 => ?_)
  · -- yes
    refine ur_draw Tryz.mixed (by kernel_rfl) ?_
    refine ud_roQ (fun h => CellAt h b 5 (.slice (some ⟨sb, 0, none⟩) 3 3) ∧ CellAt h b 6 (.int .i64 0)) [1] [0, 1, 2, 3, 4, 5, 6, 7, 8, 9, 10, 11, 12, 13, 14, 15, 16] [0, 1, 2, 3, 4, 5, 6, 7, 8, 9, 10, 11, 12, 13, 14, 15] (by kernel_rfl) (by kernel_rfl) H fun F1 h hF1 HF H => ⟨⟨⟨_, _, _, Has.has H, rfl⟩, ⟨_, _, _, Has.has H, rfl⟩⟩, ?_⟩
    refine to_free rfl rfl rfl rfl rfl (fun _ _ hk => opv_move rfl rfl hk) ?_
    refine to_free rfl rfl rfl rfl rfl (fun _ _ hk => opv_nilCheck rfl rfl hk) ?_
    refine to_free rfl rfl rfl rfl rfl (fun _ _ hk => opv_fieldAddr0 rfl rfl rfl hk) ?_
    refine to_freeQ rfl rfl rfl rfl rfl (fun _ _ hq hk => opv_loadQ (hq.2) rfl rfl hk) ?_
    refine to_free rfl rfl rfl rfl rfl (fun _ _ hk => opv_move rfl rfl hk) ?_
    refine to_free rfl rfl rfl rfl rfl (fun _ _ hk => opv_nilCheck rfl rfl hk) ?_
    refine to_free rfl rfl rfl rfl rfl (fun _ _ hk => opv_fieldAddr0 rfl rfl rfl hk) ?_
    refine to_freeQ rfl rfl rfl rfl rfl (fun _ _ hq hk => opv_loadQ (hq.1) rfl rfl hk) ?_
    refine to_free rfl rfl rfl rfl rfl (fun _ _ hk => opv_move rfl rfl hk) ?_
    refine to_free rfl rfl rfl rfl rfl (fun _ _ hk => opv_nilCheck rfl rfl hk) ?_
    refine to_free rfl rfl rfl rfl rfl (fun _ _ hk => opv_fieldAddr0 rfl rfl rfl hk) ?_
    refine to_freeQ rfl rfl rfl rfl rfl (fun _ _ hq hk => opv_loadQ (hq.2) rfl rfl hk) ?_
    refine to_free rfl rfl rfl rfl rfl (fun _ _ hk => opv_indexAt (r := 0) rfl rfl rfl (by decide) (by simp) hk) ?_
    refine to_free rfl rfl rfl rfl rfl (fun _ _ hk => opv_load1 (by first | exact .inr (Has.has HF) | exact .inr (Has.has HR1) | exact .inr (Has.has (HR.mono hF1))) rfl rfl rfl hk) ?_
    refine to_free rfl rfl rfl rfl rfl (fun _ _ hk => opv_move rfl rfl hk) ?_
    refine to_free rfl rfl rfl rfl rfl (fun _ _ hk => opv_move rfl rfl hk) ?_
    refine to_effQ rfl rfl rfl rfl rfl (opv_call rfl rfl rfl (opv_to [] [0, 0] H (fun F2 h1 hF2 HR1 H1 => have hF := Hp.le_trans hF1 hF2; sh_height hm hlm H1) ?_))
    rintro v h1 h ⟨rfl, H1⟩ J
    have H := J H1
    refine ⟨⟨⟨_, _, _, Has.has H, rfl⟩, ⟨_, _, _, Has.has H, rfl⟩⟩, ?_⟩
    refine to_end fun h J => ?_
    have H := J H
    refine ud_op 17 (by kernel_rfl) (by kernel_rfl) rfl rfl rfl rfl (opv_arith rfl rfl rfl rfl rfl ?_)
    refine ud_op 18 (by kernel_rfl) (by kernel_rfl) rfl rfl rfl rfl (opv_nilCheck rfl rfl ?_)
    refine ud_op 19 (by kernel_rfl) (by kernel_rfl) rfl rfl rfl rfl (opv_fieldAddr0 rfl rfl rfl ?_)
    refine ud_op0 20 (by kernel_rfl) (by kernel_rfl) rfl rfl rfl rfl (opv_store H rfl rfl rfl rfl rfl rfl rfl fun h H => ?_)
    refine ud_end (by kernel_rfl) ?_
    repeat refine ur_seq ?_
    refine ur_draw Tryz.mixed (by kernel_rfl) ?_
    refine ud_all [0, 1, 2, 3, 4, 5, 6, 7, 8] (by kernel_rfl) (by kernel_rfl) H fun F1 hF1 HF => ?_
    refine to_free rfl rfl rfl rfl rfl (fun _ _ hk => opv_move rfl rfl hk) ?_
    refine to_free rfl rfl rfl rfl rfl (fun _ _ hk => opv_nilCheck rfl rfl hk) ?_
    refine to_free rfl rfl rfl rfl rfl (fun _ _ hk => opv_fieldAddr0 rfl rfl rfl hk) ?_
    refine to_free rfl rfl rfl rfl rfl (fun _ _ hk => opv_load1 (by first | exact .inr (Has.has HF) | exact .inr (Has.has HR1) | exact .inr (Has.has (HR.mono hF1))) rfl rfl rfl hk) ?_
    refine to_free rfl rfl rfl rfl rfl (fun _ _ hk => opv_move rfl rfl hk) ?_
    refine to_free rfl rfl rfl rfl rfl (fun _ _ hk => opv_nilCheck rfl rfl hk) ?_
    refine to_free rfl rfl rfl rfl rfl (fun _ _ hk => opv_fieldAddr0 rfl rfl rfl hk) ?_
    refine to_free rfl rfl rfl rfl rfl (fun _ _ hk => opv_load1 (by first | exact .inr (Has.has HF) | exact .inr (Has.has HR1) | exact .inr (Has.has (HR.mono hF1))) rfl rfl rfl hk) ?_
    refine to_free rfl rfl rfl rfl rfl (fun _ _ hk => opv_len rfl rfl hk) ?_
    refine to_end ?_
    refine ud_op 9 (by kernel_rfl) (by kernel_rfl) rfl rfl rfl rfl (opv_cmp rfl rfl rfl rfl ?_)
    refine ud_op 10 (by kernel_rfl) (by kernel_rfl) rfl rfl rfl rfl (opv_assign rfl rfl ?_)
    refine ud_end (by kernel_rfl) ?_
    have hp : IntKind.i64.wrap (0 + (if rd ws lim > w64 (1099511627776 - n) then 9 else 1)) = (if rd ws lim > w64 (1099511627776 - n) then 9 else 1) := by split <;> rfl
    rw [hp] at H
    refine ur_ret1 G Tryz.func367 rfl rfl ?_
    rw [hp]
    exact ⟨rfl, H.bring [0, 0, 0]⟩
  · -- no
    exact absurd hc1 (by decide)

theorem sh_step_raise1 {b mb m lim av sb : Nat} {nd n saw : Int} {a : Ans} {ws : List Int} (hm : m < 2 ^ 30) (hlm : lim < ws.length) (hav : av < ws.length) (H : Own [pt b (.cells (shl lim av nd n saw (.slice (some ⟨sb, 0, none⟩) 3 3) 1 a).toArray 292 (0, 0)), pt sb (.cells (shSteps .raise).toArray 345 (0, 0)), MemR mb ws m] h) : CallS Tryz.prog F 367 [.pointer (some ⟨b, 0, none⟩), .pointer (some ⟨mb, 0, none⟩)].toArray h fun v h' => v = .bool (decide ((if rd ws lim = saw then 2 else 0) ≥ (3 : Int))) ∧ Own [pt b (.cells (shl lim av nd n saw (.slice (some ⟨sb, 0, none⟩) 3 3) (if rd ws lim = saw then 2 else 0) a).toArray 292 (0, 0)), MemR mb (casW ws lim saw (w64 (saw + n))) (m + 1), pt sb (.cells (shSteps .raise).toArray 345 (0, 0))] h' := by
  refine callS_intro Tryz.func367 rfl rfl rfl fun C G => ?_
  repeat refine ur_seq ?_
  refine ur_region rfl ?_
  refine ur_opw rfl rfl rfl rfl rfl (opv_assign rfl rfl ?_)
  refine ur_region_end ?_
  repeat refine ur_seq ?_
  refine ur_draw Tryz.mixed (by kernel_rfl) ?_
  refine ud_all [0, 1, 2, 3, 4, 5, 6, 7, 8] (by kernel_rfl) (by kernel_rfl) H fun F1 hF1 HF => ?_
  refine to_free rfl rfl rfl rfl rfl (fun _ _ hk => opv_move rfl rfl hk) ?_
  refine to_free rfl rfl rfl rfl rfl (fun _ _ hk => opv_nilCheck rfl rfl hk) ?_
  refine to_free rfl rfl rfl rfl rfl (fun _ _ hk => opv_fieldAddr0 rfl rfl rfl hk) ?_
  refine to_free rfl rfl rfl rfl rfl (fun _ _ hk => opv_load1 (by first | exact .inr (Has.has HF) | exact .inr (Has.has HR1) | exact .inr (Has.has (HR.mono hF1))) rfl rfl rfl hk) ?_
  refine to_free rfl rfl rfl rfl rfl (fun _ _ hk => opv_move rfl rfl hk) ?_
  refine to_free rfl rfl rfl rfl rfl (fun _ _ hk => opv_nilCheck rfl rfl hk) ?_
  refine to_free rfl rfl rfl rfl rfl (fun _ _ hk => opv_fieldAddr0 rfl rfl rfl hk) ?_
  refine to_free rfl rfl rfl rfl rfl (fun _ _ hk => opv_load1 (by first | exact .inr (Has.has HF) | exact .inr (Has.has HR1) | exact .inr (Has.has (HR.mono hF1))) rfl rfl rfl hk) ?_
  refine to_free rfl rfl rfl rfl rfl (fun _ _ hk => opv_len rfl rfl hk) ?_
  refine to_end ?_
  refine ud_op 9 (by kernel_rfl) (by kernel_rfl) rfl rfl rfl rfl (opv_cmp rfl rfl rfl rfl ?_)
  refine ud_end (by kernel_rfl) ?_
  repeat refine ur_seq ?_
  refine ur_cond rfl (fun hc1 => ?_) (fun hc1 => ?_)
  · -- yes
    refine ur_draw Tryz.mixed (by kernel_rfl) ?_
    refine ud_roQ (fun h => CellAt h b 5 (.slice (some ⟨sb, 0, none⟩) 3 3) ∧ CellAt h b 6 (.int .i64 1)) [1] [0, 1, 2, 3, 4, 5, 6, 7, 8, 9, 10, 11, 12, 13, 14, 15, 16] [0, 1, 2, 3, 4, 5, 6, 7, 8, 9, 10, 11, 12, 13, 14, 15] (by kernel_rfl) (by kernel_rfl) H fun F1 h hF1 HF H => ⟨⟨⟨_, _, _, Has.has H, rfl⟩, ⟨_, _, _, Has.has H, rfl⟩⟩, ?_⟩
    refine to_free rfl rfl rfl rfl rfl (fun _ _ hk => opv_move rfl rfl hk) ?_
    refine to_free rfl rfl rfl rfl rfl (fun _ _ hk => opv_nilCheck rfl rfl hk) ?_
    refine to_free rfl rfl rfl rfl rfl (fun _ _ hk => opv_fieldAddr0 rfl rfl rfl hk) ?_
    refine to_freeQ rfl rfl rfl rfl rfl (fun _ _ hq hk => opv_loadQ (hq.2) rfl rfl hk) ?_
    refine to_free rfl rfl rfl rfl rfl (fun _ _ hk => opv_move rfl rfl hk) ?_
    refine to_free rfl rfl rfl rfl rfl (fun _ _ hk => opv_nilCheck rfl rfl hk) ?_
    refine to_free rfl rfl rfl rfl rfl (fun _ _ hk => opv_fieldAddr0 rfl rfl rfl hk) ?_
    refine to_freeQ rfl rfl rfl rfl rfl (fun _ _ hq hk => opv_loadQ (hq.1) rfl rfl hk) ?_
    refine to_free rfl rfl rfl rfl rfl (fun _ _ hk => opv_move rfl rfl hk) ?_
    refine to_free rfl rfl rfl rfl rfl (fun _ _ hk => opv_nilCheck rfl rfl hk) ?_
    refine to_free rfl rfl rfl rfl rfl (fun _ _ hk => opv_fieldAddr0 rfl rfl rfl hk) ?_
    refine to_freeQ rfl rfl rfl rfl rfl (fun _ _ hq hk => opv_loadQ (hq.2) rfl rfl hk) ?_
    refine to_free rfl rfl rfl rfl rfl (fun _ _ hk => opv_indexAt (r := 1) rfl rfl rfl (by decide) (by simp) hk) ?_
    refine to_free rfl rfl rfl rfl rfl (fun _ _ hk => opv_load1 (by first | exact .inr (Has.has HF) | exact .inr (Has.has HR1) | exact .inr (Has.has (HR.mono hF1))) rfl rfl rfl hk) ?_
    refine to_free rfl rfl rfl rfl rfl (fun _ _ hk => opv_move rfl rfl hk) ?_
    refine to_free rfl rfl rfl rfl rfl (fun _ _ hk => opv_move rfl rfl hk) ?_
    refine to_effQ rfl rfl rfl rfl rfl (opv_call rfl rfl rfl (opv_to [] [0, 0] H (fun F2 h1 hF2 HR1 H1 => have hF := Hp.le_trans hF1 hF2; sh_up hm hlm H1) ?_))
    rintro v h1 h ⟨rfl, H1⟩ J
    have H := J H1
    refine ⟨⟨⟨_, _, _, Has.has H, rfl⟩, ⟨_, _, _, Has.has H, rfl⟩⟩, ?_⟩
    refine to_end fun h J => ?_
    have H := J H
    refine ud_op 17 (by kernel_rfl) (by kernel_rfl) rfl rfl rfl rfl (opv_arith rfl rfl rfl rfl rfl ?_)
    refine ud_op 18 (by kernel_rfl) (by kernel_rfl) rfl rfl rfl rfl (opv_nilCheck rfl rfl ?_)
    refine ud_op 19 (by kernel_rfl) (by kernel_rfl) rfl rfl rfl rfl (opv_fieldAddr0 rfl rfl rfl ?_)
    refine ud_op0 20 (by kernel_rfl) (by kernel_rfl) rfl rfl rfl rfl (opv_store H rfl rfl rfl rfl rfl rfl rfl fun h H => ?_)
    refine ud_end (by kernel_rfl) ?_
    repeat refine ur_seq ?_
    refine ur_draw Tryz.mixed (by kernel_rfl) ?_
    refine ud_all [0, 1, 2, 3, 4, 5, 6, 7, 8] (by kernel_rfl) (by kernel_rfl) H fun F1 hF1 HF => ?_
    refine to_free rfl rfl rfl rfl rfl (fun _ _ hk => opv_move rfl rfl hk) ?_
    refine to_free rfl rfl rfl rfl rfl (fun _ _ hk => opv_nilCheck rfl rfl hk) ?_
    refine to_free rfl rfl rfl rfl rfl (fun _ _ hk => opv_fieldAddr0 rfl rfl rfl hk) ?_
    refine to_free rfl rfl rfl rfl rfl (fun _ _ hk => opv_load1 (by first | exact .inr (Has.has HF) | exact .inr (Has.has HR1) | exact .inr (Has.has (HR.mono hF1))) rfl rfl rfl hk) ?_
    refine to_free rfl rfl rfl rfl rfl (fun _ _ hk => opv_move rfl rfl hk) ?_
    refine to_free rfl rfl rfl rfl rfl (fun _ _ hk => opv_nilCheck rfl rfl hk) ?_
    refine to_free rfl rfl rfl rfl rfl (fun _ _ hk => opv_fieldAddr0 rfl rfl rfl hk) ?_
    refine to_free rfl rfl rfl rfl rfl (fun _ _ hk => opv_load1 (by first | exact .inr (Has.has HF) | exact .inr (Has.has HR1) | exact .inr (Has.has (HR.mono hF1))) rfl rfl rfl hk) ?_
    refine to_free rfl rfl rfl rfl rfl (fun _ _ hk => opv_len rfl rfl hk) ?_
    refine to_end ?_
    refine ud_op 9 (by kernel_rfl) (by kernel_rfl) rfl rfl rfl rfl (opv_cmp rfl rfl rfl rfl ?_)
    refine ud_op 10 (by kernel_rfl) (by kernel_rfl) rfl rfl rfl rfl (opv_assign rfl rfl ?_)
    refine ud_end (by kernel_rfl) ?_
    have hp : IntKind.i64.wrap (1 + (if rd ws lim = saw then 1 else -1)) = (if rd ws lim = saw then 2 else 0) := by split <;> rfl
    rw [hp] at H
    refine ur_ret1 G Tryz.func367 rfl rfl ?_
    rw [hp]
    exact ⟨rfl, H.bring [0, 0, 0]⟩
  · -- no
    exact absurd hc1 (by decide)

theorem sh_step_raise2 {b mb m lim av sb : Nat} {nd n saw : Int} {a : Ans} {ws : List Int} (hm : m < 2 ^ 30) (hlm : lim < ws.length) (hav : av < ws.length) (H : Own [pt b (.cells (shl lim av nd n saw (.slice (some ⟨sb, 0, none⟩) 3 3) 2 a).toArray 292 (0, 0)), pt sb (.cells (shSteps .raise).toArray 345 (0, 0)), MemR mb ws m] h) : CallS Tryz.prog F 367 [.pointer (some ⟨b, 0, none⟩), .pointer (some ⟨mb, 0, none⟩)].toArray h fun v h' => v = .bool (decide (11 ≥ (3 : Int))) ∧ Own [pt b (.cells (shl lim av nd n saw (.slice (some ⟨sb, 0, none⟩) 3 3) 11 a).toArray 292 (0, 0)), MemR mb (addW ws av n) (m + 1), pt sb (.cells (shSteps .raise).toArray 345 (0, 0))] h' := by
  refine callS_intro Tryz.func367 rfl rfl rfl fun C G => ?_
  repeat refine ur_seq ?_
  refine ur_region rfl ?_
  refine ur_opw rfl rfl rfl rfl rfl (opv_assign rfl rfl ?_)
  refine ur_region_end ?_
  repeat refine ur_seq ?_
  refine ur_draw Tryz.mixed (by kernel_rfl) ?_
  refine ud_all [0, 1, 2, 3, 4, 5, 6, 7, 8] (by kernel_rfl) (by kernel_rfl) H fun F1 hF1 HF => ?_
  refine to_free rfl rfl rfl rfl rfl (fun _ _ hk => opv_move rfl rfl hk) ?_
  refine to_free rfl rfl rfl rfl rfl (fun _ _ hk => opv_nilCheck rfl rfl hk) ?_
  refine to_free rfl rfl rfl rfl rfl (fun _ _ hk => opv_fieldAddr0 rfl rfl rfl hk) ?_
  refine to_free rfl rfl rfl rfl rfl (fun _ _ hk => opv_load1 (by first | exact .inr (Has.has HF) | exact .inr (Has.has HR1) | exact .inr (Has.has (HR.mono hF1))) rfl rfl rfl hk) ?_
  refine to_free rfl rfl rfl rfl rfl (fun _ _ hk => opv_move rfl rfl hk) ?_
  refine to_free rfl rfl rfl rfl rfl (fun _ _ hk => opv_nilCheck rfl rfl hk) ?_
  refine to_free rfl rfl rfl rfl rfl (fun _ _ hk => opv_fieldAddr0 rfl rfl rfl hk) ?_
  refine to_free rfl rfl rfl rfl rfl (fun _ _ hk => opv_load1 (by first | exact .inr (Has.has HF) | exact .inr (Has.has HR1) | exact .inr (Has.has (HR.mono hF1))) rfl rfl rfl hk) ?_
  refine to_free rfl rfl rfl rfl rfl (fun _ _ hk => opv_len rfl rfl hk) ?_
  refine to_end ?_
  refine ud_op 9 (by kernel_rfl) (by kernel_rfl) rfl rfl rfl rfl (opv_cmp rfl rfl rfl rfl ?_)
  refine ud_end (by kernel_rfl) ?_
  repeat refine ur_seq ?_
  refine ur_cond rfl (fun hc1 => ?_) (fun hc1 => ?_)
  · -- yes
    refine ur_draw Tryz.mixed (by kernel_rfl) ?_
    refine ud_roQ (fun h => CellAt h b 5 (.slice (some ⟨sb, 0, none⟩) 3 3) ∧ CellAt h b 6 (.int .i64 2)) [1] [0, 1, 2, 3, 4, 5, 6, 7, 8, 9, 10, 11, 12, 13, 14, 15, 16] [0, 1, 2, 3, 4, 5, 6, 7, 8, 9, 10, 11, 12, 13, 14, 15] (by kernel_rfl) (by kernel_rfl) H fun F1 h hF1 HF H => ⟨⟨⟨_, _, _, Has.has H, rfl⟩, ⟨_, _, _, Has.has H, rfl⟩⟩, ?_⟩
    refine to_free rfl rfl rfl rfl rfl (fun _ _ hk => opv_move rfl rfl hk) ?_
    refine to_free rfl rfl rfl rfl rfl (fun _ _ hk => opv_nilCheck rfl rfl hk) ?_
    refine to_free rfl rfl rfl rfl rfl (fun _ _ hk => opv_fieldAddr0 rfl rfl rfl hk) ?_
    refine to_freeQ rfl rfl rfl rfl rfl (fun _ _ hq hk => opv_loadQ (hq.2) rfl rfl hk) ?_
    refine to_free rfl rfl rfl rfl rfl (fun _ _ hk => opv_move rfl rfl hk) ?_
    refine to_free rfl rfl rfl rfl rfl (fun _ _ hk => opv_nilCheck rfl rfl hk) ?_
    refine to_free rfl rfl rfl rfl rfl (fun _ _ hk => opv_fieldAddr0 rfl rfl rfl hk) ?_
    refine to_freeQ rfl rfl rfl rfl rfl (fun _ _ hq hk => opv_loadQ (hq.1) rfl rfl hk) ?_
    refine to_free rfl rfl rfl rfl rfl (fun _ _ hk => opv_move rfl rfl hk) ?_
    refine to_free rfl rfl rfl rfl rfl (fun _ _ hk => opv_nilCheck rfl rfl hk) ?_
    refine to_free rfl rfl rfl rfl rfl (fun _ _ hk => opv_fieldAddr0 rfl rfl rfl hk) ?_
    refine to_freeQ rfl rfl rfl rfl rfl (fun _ _ hq hk => opv_loadQ (hq.2) rfl rfl hk) ?_
    refine to_free rfl rfl rfl rfl rfl (fun _ _ hk => opv_indexAt (r := 2) rfl rfl rfl (by decide) (by simp) hk) ?_
    refine to_free rfl rfl rfl rfl rfl (fun _ _ hk => opv_load1 (by first | exact .inr (Has.has HF) | exact .inr (Has.has HR1) | exact .inr (Has.has (HR.mono hF1))) rfl rfl rfl hk) ?_
    refine to_free rfl rfl rfl rfl rfl (fun _ _ hk => opv_move rfl rfl hk) ?_
    refine to_free rfl rfl rfl rfl rfl (fun _ _ hk => opv_move rfl rfl hk) ?_
    refine to_effQ rfl rfl rfl rfl rfl (opv_call rfl rfl rfl (opv_to [] [0, 0] H (fun F2 h1 hF2 HR1 H1 => have hF := Hp.le_trans hF1 hF2; sh_more hm hav H1) ?_))
    rintro v h1 h ⟨rfl, H1⟩ J
    have H := J H1
    refine ⟨⟨⟨_, _, _, Has.has H, rfl⟩, ⟨_, _, _, Has.has H, rfl⟩⟩, ?_⟩
    refine to_end fun h J => ?_
    have H := J H
    refine ud_op 17 (by kernel_rfl) (by kernel_rfl) rfl rfl rfl rfl (opv_arith rfl rfl rfl rfl rfl ?_)
    refine ud_op 18 (by kernel_rfl) (by kernel_rfl) rfl rfl rfl rfl (opv_nilCheck rfl rfl ?_)
    refine ud_op 19 (by kernel_rfl) (by kernel_rfl) rfl rfl rfl rfl (opv_fieldAddr0 rfl rfl rfl ?_)
    refine ud_op0 20 (by kernel_rfl) (by kernel_rfl) rfl rfl rfl rfl (opv_store H rfl rfl rfl rfl rfl rfl rfl fun h H => ?_)
    refine ud_end (by kernel_rfl) ?_
    repeat refine ur_seq ?_
    refine ur_draw Tryz.mixed (by kernel_rfl) ?_
    refine ud_all [0, 1, 2, 3, 4, 5, 6, 7, 8] (by kernel_rfl) (by kernel_rfl) H fun F1 hF1 HF => ?_
    refine to_free rfl rfl rfl rfl rfl (fun _ _ hk => opv_move rfl rfl hk) ?_
    refine to_free rfl rfl rfl rfl rfl (fun _ _ hk => opv_nilCheck rfl rfl hk) ?_
    refine to_free rfl rfl rfl rfl rfl (fun _ _ hk => opv_fieldAddr0 rfl rfl rfl hk) ?_
    refine to_free rfl rfl rfl rfl rfl (fun _ _ hk => opv_load1 (by first | exact .inr (Has.has HF) | exact .inr (Has.has HR1) | exact .inr (Has.has (HR.mono hF1))) rfl rfl rfl hk) ?_
    refine to_free rfl rfl rfl rfl rfl (fun _ _ hk => opv_move rfl rfl hk) ?_
    refine to_free rfl rfl rfl rfl rfl (fun _ _ hk => opv_nilCheck rfl rfl hk) ?_
    refine to_free rfl rfl rfl rfl rfl (fun _ _ hk => opv_fieldAddr0 rfl rfl rfl hk) ?_
    refine to_free rfl rfl rfl rfl rfl (fun _ _ hk => opv_load1 (by first | exact .inr (Has.has HF) | exact .inr (Has.has HR1) | exact .inr (Has.has (HR.mono hF1))) rfl rfl rfl hk) ?_
    refine to_free rfl rfl rfl rfl rfl (fun _ _ hk => opv_len rfl rfl hk) ?_
    refine to_end ?_
    refine ud_op 9 (by kernel_rfl) (by kernel_rfl) rfl rfl rfl rfl (opv_cmp rfl rfl rfl rfl ?_)
    refine ud_op 10 (by kernel_rfl) (by kernel_rfl) rfl rfl rfl rfl (opv_assign rfl rfl ?_)
    refine ud_end (by kernel_rfl) ?_
    have hp : IntKind.i64.wrap (2 + 9) = 11 := rfl
    rw [hp] at H
    refine ur_ret1 G Tryz.func367 rfl rfl ?_
    rw [hp]
    exact ⟨rfl, H.bring [0, 0, 0]⟩
  · -- no
    exact absurd hc1 (by decide)

theorem sh_step_lower0 {b mb m lim av sb : Nat} {nd n saw : Int} {a : Ans} {ws : List Int} (hm : m < 2 ^ 30) (hlm : lim < ws.length) (hav : av < ws.length) (H : Own [pt b (.cells (shl lim av nd n saw (.slice (some ⟨sb, 0, none⟩) 3 3) 0 a).toArray 292 (0, 0)), pt sb (.cells (shSteps .lower).toArray 345 (0, 0)), MemR mb ws m] h) : CallS Tryz.prog F 367 [.pointer (some ⟨b, 0, none⟩), .pointer (some ⟨mb, 0, none⟩)].toArray h fun v h' => v = .bool (decide ((if rd ws av < n then 9 else 1) ≥ (3 : Int))) ∧ Own [pt b (.cells (shl lim av nd n (rd ws av) (.slice (some ⟨sb, 0, none⟩) 3 3) (if rd ws av < n then 9 else 1) (if rd ws av < n then ⟨4, 0, false, nd⟩ else a)).toArray 292 (0, 0)), MemR mb (ws) (m + 1), pt sb (.cells (shSteps .lower).toArray 345 (0, 0))] h' := by
  refine callS_intro Tryz.func367 rfl rfl rfl fun C G => ?_
  repeat refine ur_seq ?_
  refine ur_region rfl ?_
  refine ur_opw rfl rfl rfl rfl rfl (opv_assign rfl rfl ?_)
  refine ur_region_end ?_
  repeat refine ur_seq ?_
  refine ur_draw Tryz.mixed (by kernel_rfl) ?_
  refine ud_all [0, 1, 2, 3, 4, 5, 6, 7, 8] (by kernel_rfl) (by kernel_rfl) H fun F1 hF1 HF => ?_
  refine to_free rfl rfl rfl rfl rfl (fun _ _ hk => opv_move rfl rfl hk) ?_
  refine to_free rfl rfl rfl rfl rfl (fun _ _ hk => opv_nilCheck rfl rfl hk) ?_
  refine to_free rfl rfl rfl rfl rfl (fun _ _ hk => opv_fieldAddr0 rfl rfl rfl hk) ?_
  refine to_free rfl rfl rfl rfl rfl (fun _ _ hk => opv_load1 (by first | exact .inr (Has.has HF) | exact .inr (Has.has HR1) | exact .inr (Has.has (HR.mono hF1))) rfl rfl rfl hk) ?_
  refine to_free rfl rfl rfl rfl rfl (fun _ _ hk => opv_move rfl rfl hk) ?_
  refine to_free rfl rfl rfl rfl rfl (fun _ _ hk => opv_nilCheck rfl rfl hk) ?_
  refine to_free rfl rfl rfl rfl rfl (fun _ _ hk => opv_fieldAddr0 rfl rfl rfl hk) ?_
  refine to_free rfl rfl rfl rfl rfl (fun _ _ hk => opv_load1 (by first | exact .inr (Has.has HF) | exact .inr (Has.has HR1) | exact .inr (Has.has (HR.mono hF1))) rfl rfl rfl hk) ?_
  refine to_free rfl rfl rfl rfl rfl (fun _ _ hk => opv_len rfl rfl hk) ?_
  refine to_end ?_
  refine ud_op 9 (by kernel_rfl) (by kernel_rfl) rfl rfl rfl rfl (opv_cmp rfl rfl rfl rfl ?_)
  refine ud_end (by kernel_rfl) ?_
  repeat refine ur_seq ?_
  refine ur_cond rfl (fun hc1 => ?_) (fun hc1 => ?_)
  · -- yes
    refine ur_draw Tryz.mixed (by kernel_rfl) ?_
    refine ud_roQ (fun h => CellAt h b 5 (.slice (some ⟨sb, 0, none⟩) 3 3) ∧ CellAt h b 6 (.int .i64 0)) [1] [0, 1, 2, 3, 4, 5, 6, 7, 8, 9, 10, 11, 12, 13, 14, 15, 16] [0, 1, 2, 3, 4, 5, 6, 7, 8, 9, 10, 11, 12, 13, 14, 15] (by kernel_rfl) (by kernel_rfl) H fun F1 h hF1 HF H => ⟨⟨⟨_, _, _, Has.has H, rfl⟩, ⟨_, _, _, Has.has H, rfl⟩⟩, ?_⟩
    refine to_free rfl rfl rfl rfl rfl (fun _ _ hk => opv_move rfl rfl hk) ?_
    refine to_free rfl rfl rfl rfl rfl (fun _ _ hk => opv_nilCheck rfl rfl hk) ?_
    refine to_free rfl rfl rfl rfl rfl (fun _ _ hk => opv_fieldAddr0 rfl rfl rfl hk) ?_
    refine to_freeQ rfl rfl rfl rfl rfl (fun _ _ hq hk => opv_loadQ (hq.2) rfl rfl hk) ?_
    refine to_free rfl rfl rfl rfl rfl (fun _ _ hk => opv_move rfl rfl hk) ?_
    refine to_free rfl rfl rfl rfl rfl (fun _ _ hk => opv_nilCheck rfl rfl hk) ?_
    refine to_free rfl rfl rfl rfl rfl (fun _ _ hk => opv_fieldAddr0 rfl rfl rfl hk) ?_
    refine to_freeQ rfl rfl rfl rfl rfl (fun _ _ hq hk => opv_loadQ (hq.1) rfl rfl hk) ?_
    refine to_free rfl rfl rfl rfl rfl (fun _ _ hk => opv_move rfl rfl hk) ?_
    refine to_free rfl rfl rfl rfl rfl (fun _ _ hk => opv_nilCheck rfl rfl hk) ?_
    refine to_free rfl rfl rfl rfl rfl (fun _ _ hk => opv_fieldAddr0 rfl rfl rfl hk) ?_
    refine to_freeQ rfl rfl rfl rfl rfl (fun _ _ hq hk => opv_loadQ (hq.2) rfl rfl hk) ?_
    refine to_free rfl rfl rfl rfl rfl (fun _ _ hk => opv_indexAt (r := 0) rfl rfl rfl (by decide) (by simp) hk) ?_
    refine to_free rfl rfl rfl rfl rfl (fun _ _ hk => opv_load1 (by first | exact .inr (Has.has HF) | exact .inr (Has.has HR1) | exact .inr (Has.has (HR.mono hF1))) rfl rfl rfl hk) ?_
    refine to_free rfl rfl rfl rfl rfl (fun _ _ hk => opv_move rfl rfl hk) ?_
    refine to_free rfl rfl rfl rfl rfl (fun _ _ hk => opv_move rfl rfl hk) ?_
    refine to_effQ rfl rfl rfl rfl rfl (opv_call rfl rfl rfl (opv_to [] [0, 0] H (fun F2 h1 hF2 HR1 H1 => have hF := Hp.le_trans hF1 hF2; sh_rest hm hav H1) ?_))
    rintro v h1 h ⟨rfl, H1⟩ J
    have H := J H1
    refine ⟨⟨⟨_, _, _, Has.has H, rfl⟩, ⟨_, _, _, Has.has H, rfl⟩⟩, ?_⟩
    refine to_end fun h J => ?_
    have H := J H
    refine ud_op 17 (by kernel_rfl) (by kernel_rfl) rfl rfl rfl rfl (opv_arith rfl rfl rfl rfl rfl ?_)
    refine ud_op 18 (by kernel_rfl) (by kernel_rfl) rfl rfl rfl rfl (opv_nilCheck rfl rfl ?_)
    refine ud_op 19 (by kernel_rfl) (by kernel_rfl) rfl rfl rfl rfl (opv_fieldAddr0 rfl rfl rfl ?_)
    refine ud_op0 20 (by kernel_rfl) (by kernel_rfl) rfl rfl rfl rfl (opv_store H rfl rfl rfl rfl rfl rfl rfl fun h H => ?_)
    refine ud_end (by kernel_rfl) ?_
    repeat refine ur_seq ?_
    refine ur_draw Tryz.mixed (by kernel_rfl) ?_
    refine ud_all [0, 1, 2, 3, 4, 5, 6, 7, 8] (by kernel_rfl) (by kernel_rfl) H fun F1 hF1 HF => ?_
    refine to_free rfl rfl rfl rfl rfl (fun _ _ hk => opv_move rfl rfl hk) ?_
    refine to_free rfl rfl rfl rfl rfl (fun _ _ hk => opv_nilCheck rfl rfl hk) ?_
    refine to_free rfl rfl rfl rfl rfl (fun _ _ hk => opv_fieldAddr0 rfl rfl rfl hk) ?_
    refine to_free rfl rfl rfl rfl rfl (fun _ _ hk => opv_load1 (by first | exact .inr (Has.has HF) | exact .inr (Has.has HR1) | exact .inr (Has.has (HR.mono hF1))) rfl rfl rfl hk) ?_
    refine to_free rfl rfl rfl rfl rfl (fun _ _ hk => opv_move rfl rfl hk) ?_
    refine to_free rfl rfl rfl rfl rfl (fun _ _ hk => opv_nilCheck rfl rfl hk) ?_
    refine to_free rfl rfl rfl rfl rfl (fun _ _ hk => opv_fieldAddr0 rfl rfl rfl hk) ?_
    refine to_free rfl rfl rfl rfl rfl (fun _ _ hk => opv_load1 (by first | exact .inr (Has.has HF) | exact .inr (Has.has HR1) | exact .inr (Has.has (HR.mono hF1))) rfl rfl rfl hk) ?_
    refine to_free rfl rfl rfl rfl rfl (fun _ _ hk => opv_len rfl rfl hk) ?_
    refine to_end ?_
    refine ud_op 9 (by kernel_rfl) (by kernel_rfl) rfl rfl rfl rfl (opv_cmp rfl rfl rfl rfl ?_)
    refine ud_op 10 (by kernel_rfl) (by kernel_rfl) rfl rfl rfl rfl (opv_assign rfl rfl ?_)
    refine ud_end (by kernel_rfl) ?_
    have hp : IntKind.i64.wrap (0 + (if rd ws av < n then 9 else 1)) = (if rd ws av < n then 9 else 1) := by split <;> rfl
    rw [hp] at H
    refine ur_ret1 G Tryz.func367 rfl rfl ?_
    rw [hp]
    exact ⟨rfl, H.bring [0, 0, 0]⟩
  · -- no
    exact absurd hc1 (by decide)

theorem sh_step_lower1 {b mb m lim av sb : Nat} {nd n saw : Int} {a : Ans} {ws : List Int} (hm : m < 2 ^ 30) (hlm : lim < ws.length) (hav : av < ws.length) (H : Own [pt b (.cells (shl lim av nd n saw (.slice (some ⟨sb, 0, none⟩) 3 3) 1 a).toArray 292 (0, 0)), pt sb (.cells (shSteps .lower).toArray 345 (0, 0)), MemR mb ws m] h) : CallS Tryz.prog F 367 [.pointer (some ⟨b, 0, none⟩), .pointer (some ⟨mb, 0, none⟩)].toArray h fun v h' => v = .bool (decide ((if rd ws av = saw then 2 else 0) ≥ (3 : Int))) ∧ Own [pt b (.cells (shl lim av nd n saw (.slice (some ⟨sb, 0, none⟩) 3 3) (if rd ws av = saw then 2 else 0) a).toArray 292 (0, 0)), MemR mb (casW ws av saw (w64 (saw - n))) (m + 1), pt sb (.cells (shSteps .lower).toArray 345 (0, 0))] h' := by
  refine callS_intro Tryz.func367 rfl rfl rfl fun C G => ?_
  repeat refine ur_seq ?_
  refine ur_region rfl ?_
  refine ur_opw rfl rfl rfl rfl rfl (opv_assign rfl rfl ?_)
  refine ur_region_end ?_
  repeat refine ur_seq ?_
  refine ur_draw Tryz.mixed (by kernel_rfl) ?_
  refine ud_all [0, 1, 2, 3, 4, 5, 6, 7, 8] (by kernel_rfl) (by kernel_rfl) H fun F1 hF1 HF => ?_
  refine to_free rfl rfl rfl rfl rfl (fun _ _ hk => opv_move rfl rfl hk) ?_
  refine to_free rfl rfl rfl rfl rfl (fun _ _ hk => opv_nilCheck rfl rfl hk) ?_
  refine to_free rfl rfl rfl rfl rfl (fun _ _ hk => opv_fieldAddr0 rfl rfl rfl hk) ?_
  refine to_free rfl rfl rfl rfl rfl (fun _ _ hk => opv_load1 (by first | exact .inr (Has.has HF) | exact .inr (Has.has HR1) | exact .inr (Has.has (HR.mono hF1))) rfl rfl rfl hk) ?_
  refine to_free rfl rfl rfl rfl rfl (fun _ _ hk => opv_move rfl rfl hk) ?_
  refine to_free rfl rfl rfl rfl rfl (fun _ _ hk => opv_nilCheck rfl rfl hk) ?_
  refine to_free rfl rfl rfl rfl rfl (fun _ _ hk => opv_fieldAddr0 rfl rfl rfl hk) ?_
  refine to_free rfl rfl rfl rfl rfl (fun _ _ hk => opv_load1 (by first | exact .inr (Has.has HF) | exact .inr (Has.has HR1) | exact .inr (Has.has (HR.mono hF1))) rfl rfl rfl hk) ?_
  refine to_free rfl rfl rfl rfl rfl (fun _ _ hk => opv_len rfl rfl hk) ?_
  refine to_end ?_
  refine ud_op 9 (by kernel_rfl) (by kernel_rfl) rfl rfl rfl rfl (opv_cmp rfl rfl rfl rfl ?_)
  refine ud_end (by kernel_rfl) ?_
  repeat refine ur_seq ?_
  refine ur_cond rfl (fun hc1 => ?_) (fun hc1 => ?_)
  · -- yes
    refine ur_draw Tryz.mixed (by kernel_rfl) ?_
    refine ud_roQ (fun h => CellAt h b 5 (.slice (some ⟨sb, 0, none⟩) 3 3) ∧ CellAt h b 6 (.int .i64 1)) [1] [0, 1, 2, 3, 4, 5, 6, 7, 8, 9, 10, 11, 12, 13, 14, 15, 16] [0, 1, 2, 3, 4, 5, 6, 7, 8, 9, 10, 11, 12, 13, 14, 15] (by kernel_rfl) (by kernel_rfl) H fun F1 h hF1 HF H => ⟨⟨⟨_, _, _, Has.has H, rfl⟩, ⟨_, _, _, Has.has H, rfl⟩⟩, ?_⟩
    refine to_free rfl rfl rfl rfl rfl (fun _ _ hk => opv_move rfl rfl hk) ?_
    refine to_free rfl rfl rfl rfl rfl (fun _ _ hk => opv_nilCheck rfl rfl hk) ?_
    refine to_free rfl rfl rfl rfl rfl (fun _ _ hk => opv_fieldAddr0 rfl rfl rfl hk) ?_
    refine to_freeQ rfl rfl rfl rfl rfl (fun _ _ hq hk => opv_loadQ (hq.2) rfl rfl hk) ?_
    refine to_free rfl rfl rfl rfl rfl (fun _ _ hk => opv_move rfl rfl hk) ?_
    refine to_free rfl rfl rfl rfl rfl (fun _ _ hk => opv_nilCheck rfl rfl hk) ?_
    refine to_free rfl rfl rfl rfl rfl (fun _ _ hk => opv_fieldAddr0 rfl rfl rfl hk) ?_
    refine to_freeQ rfl rfl rfl rfl rfl (fun _ _ hq hk => opv_loadQ (hq.1) rfl rfl hk) ?_
    refine to_free rfl rfl rfl rfl rfl (fun _ _ hk => opv_move rfl rfl hk) ?_
    refine to_free rfl rfl rfl rfl rfl (fun _ _ hk => opv_nilCheck rfl rfl hk) ?_
    refine to_free rfl rfl rfl rfl rfl (fun _ _ hk => opv_fieldAddr0 rfl rfl rfl hk) ?_
    refine to_freeQ rfl rfl rfl rfl rfl (fun _ _ hq hk => opv_loadQ (hq.2) rfl rfl hk) ?_
    refine to_free rfl rfl rfl rfl rfl (fun _ _ hk => opv_indexAt (r := 1) rfl rfl rfl (by decide) (by simp) hk) ?_
    refine to_free rfl rfl rfl rfl rfl (fun _ _ hk => opv_load1 (by first | exact .inr (Has.has HF) | exact .inr (Has.has HR1) | exact .inr (Has.has (HR.mono hF1))) rfl rfl rfl hk) ?_
    refine to_free rfl rfl rfl rfl rfl (fun _ _ hk => opv_move rfl rfl hk) ?_
    refine to_free rfl rfl rfl rfl rfl (fun _ _ hk => opv_move rfl rfl hk) ?_
    refine to_effQ rfl rfl rfl rfl rfl (opv_call rfl rfl rfl (opv_to [] [0, 0] H (fun F2 h1 hF2 HR1 H1 => have hF := Hp.le_trans hF1 hF2; sh_out hm hav H1) ?_))
    rintro v h1 h ⟨rfl, H1⟩ J
    have H := J H1
    refine ⟨⟨⟨_, _, _, Has.has H, rfl⟩, ⟨_, _, _, Has.has H, rfl⟩⟩, ?_⟩
    refine to_end fun h J => ?_
    have H := J H
    refine ud_op 17 (by kernel_rfl) (by kernel_rfl) rfl rfl rfl rfl (opv_arith rfl rfl rfl rfl rfl ?_)
    refine ud_op 18 (by kernel_rfl) (by kernel_rfl) rfl rfl rfl rfl (opv_nilCheck rfl rfl ?_)
    refine ud_op 19 (by kernel_rfl) (by kernel_rfl) rfl rfl rfl rfl (opv_fieldAddr0 rfl rfl rfl ?_)
    refine ud_op0 20 (by kernel_rfl) (by kernel_rfl) rfl rfl rfl rfl (opv_store H rfl rfl rfl rfl rfl rfl rfl fun h H => ?_)
    refine ud_end (by kernel_rfl) ?_
    repeat refine ur_seq ?_
    refine ur_draw Tryz.mixed (by kernel_rfl) ?_
    refine ud_all [0, 1, 2, 3, 4, 5, 6, 7, 8] (by kernel_rfl) (by kernel_rfl) H fun F1 hF1 HF => ?_
    refine to_free rfl rfl rfl rfl rfl (fun _ _ hk => opv_move rfl rfl hk) ?_
    refine to_free rfl rfl rfl rfl rfl (fun _ _ hk => opv_nilCheck rfl rfl hk) ?_
    refine to_free rfl rfl rfl rfl rfl (fun _ _ hk => opv_fieldAddr0 rfl rfl rfl hk) ?_
    refine to_free rfl rfl rfl rfl rfl (fun _ _ hk => opv_load1 (by first | exact .inr (Has.has HF) | exact .inr (Has.has HR1) | exact .inr (Has.has (HR.mono hF1))) rfl rfl rfl hk) ?_
    refine to_free rfl rfl rfl rfl rfl (fun _ _ hk => opv_move rfl rfl hk) ?_
    refine to_free rfl rfl rfl rfl rfl (fun _ _ hk => opv_nilCheck rfl rfl hk) ?_
    refine to_free rfl rfl rfl rfl rfl (fun _ _ hk => opv_fieldAddr0 rfl rfl rfl hk) ?_
    refine to_free rfl rfl rfl rfl rfl (fun _ _ hk => opv_load1 (by first | exact .inr (Has.has HF) | exact .inr (Has.has HR1) | exact .inr (Has.has (HR.mono hF1))) rfl rfl rfl hk) ?_
    refine to_free rfl rfl rfl rfl rfl (fun _ _ hk => opv_len rfl rfl hk) ?_
    refine to_end ?_
    refine ud_op 9 (by kernel_rfl) (by kernel_rfl) rfl rfl rfl rfl (opv_cmp rfl rfl rfl rfl ?_)
    refine ud_op 10 (by kernel_rfl) (by kernel_rfl) rfl rfl rfl rfl (opv_assign rfl rfl ?_)
    refine ud_end (by kernel_rfl) ?_
    have hp : IntKind.i64.wrap (1 + (if rd ws av = saw then 1 else -1)) = (if rd ws av = saw then 2 else 0) := by split <;> rfl
    rw [hp] at H
    refine ur_ret1 G Tryz.func367 rfl rfl ?_
    rw [hp]
    exact ⟨rfl, H.bring [0, 0, 0]⟩
  · -- no
    exact absurd hc1 (by decide)

theorem sh_step_lower2 {b mb m lim av sb : Nat} {nd n saw : Int} {a : Ans} {ws : List Int} (hm : m < 2 ^ 30) (hlm : lim < ws.length) (hav : av < ws.length) (H : Own [pt b (.cells (shl lim av nd n saw (.slice (some ⟨sb, 0, none⟩) 3 3) 2 a).toArray 292 (0, 0)), pt sb (.cells (shSteps .lower).toArray 345 (0, 0)), MemR mb ws m] h) : CallS Tryz.prog F 367 [.pointer (some ⟨b, 0, none⟩), .pointer (some ⟨mb, 0, none⟩)].toArray h fun v h' => v = .bool (decide (11 ≥ (3 : Int))) ∧ Own [pt b (.cells (shl lim av nd n saw (.slice (some ⟨sb, 0, none⟩) 3 3) 11 a).toArray 292 (0, 0)), MemR mb (addW ws lim (w64 (0 - n))) (m + 1), pt sb (.cells (shSteps .lower).toArray 345 (0, 0))] h' := by
  refine callS_intro Tryz.func367 rfl rfl rfl fun C G => ?_
  repeat refine ur_seq ?_
  refine ur_region rfl ?_
  refine ur_opw rfl rfl rfl rfl rfl (opv_assign rfl rfl ?_)
  refine ur_region_end ?_
  repeat refine ur_seq ?_
  refine ur_draw Tryz.mixed (by kernel_rfl) ?_
  refine ud_all [0, 1, 2, 3, 4, 5, 6, 7, 8] (by kernel_rfl) (by kernel_rfl) H fun F1 hF1 HF => ?_
  refine to_free rfl rfl rfl rfl rfl (fun _ _ hk => opv_move rfl rfl hk) ?_
  refine to_free rfl rfl rfl rfl rfl (fun _ _ hk => opv_nilCheck rfl rfl hk) ?_
  refine to_free rfl rfl rfl rfl rfl (fun _ _ hk => opv_fieldAddr0 rfl rfl rfl hk) ?_
  refine to_free rfl rfl rfl rfl rfl (fun _ _ hk => opv_load1 (by first | exact .inr (Has.has HF) | exact .inr (Has.has HR1) | exact .inr (Has.has (HR.mono hF1))) rfl rfl rfl hk) ?_
  refine to_free rfl rfl rfl rfl rfl (fun _ _ hk => opv_move rfl rfl hk) ?_
  refine to_free rfl rfl rfl rfl rfl (fun _ _ hk => opv_nilCheck rfl rfl hk) ?_
  refine to_free rfl rfl rfl rfl rfl (fun _ _ hk => opv_fieldAddr0 rfl rfl rfl hk) ?_
  refine to_free rfl rfl rfl rfl rfl (fun _ _ hk => opv_load1 (by first | exact .inr (Has.has HF) | exact .inr (Has.has HR1) | exact .inr (Has.has (HR.mono hF1))) rfl rfl rfl hk) ?_
  refine to_free rfl rfl rfl rfl rfl (fun _ _ hk => opv_len rfl rfl hk) ?_
  refine to_end ?_
  refine ud_op 9 (by kernel_rfl) (by kernel_rfl) rfl rfl rfl rfl (opv_cmp rfl rfl rfl rfl ?_)
  refine ud_end (by kernel_rfl) ?_
  repeat refine ur_seq ?_
  refine ur_cond rfl (fun hc1 => ?_) (fun hc1 => ?_)
  · -- yes
    refine ur_draw Tryz.mixed (by kernel_rfl) ?_
    refine ud_roQ (fun h => CellAt h b 5 (.slice (some ⟨sb, 0, none⟩) 3 3) ∧ CellAt h b 6 (.int .i64 2)) [1] [0, 1, 2, 3, 4, 5, 6, 7, 8, 9, 10, 11, 12, 13, 14, 15, 16] [0, 1, 2, 3, 4, 5, 6, 7, 8, 9, 10, 11, 12, 13, 14, 15] (by kernel_rfl) (by kernel_rfl) H fun F1 h hF1 HF H => ⟨⟨⟨_, _, _, Has.has H, rfl⟩, ⟨_, _, _, Has.has H, rfl⟩⟩, ?_⟩
    refine to_free rfl rfl rfl rfl rfl (fun _ _ hk => opv_move rfl rfl hk) ?_
    refine to_free rfl rfl rfl rfl rfl (fun _ _ hk => opv_nilCheck rfl rfl hk) ?_
    refine to_free rfl rfl rfl rfl rfl (fun _ _ hk => opv_fieldAddr0 rfl rfl rfl hk) ?_
    refine to_freeQ rfl rfl rfl rfl rfl (fun _ _ hq hk => opv_loadQ (hq.2) rfl rfl hk) ?_
    refine to_free rfl rfl rfl rfl rfl (fun _ _ hk => opv_move rfl rfl hk) ?_
    refine to_free rfl rfl rfl rfl rfl (fun _ _ hk => opv_nilCheck rfl rfl hk) ?_
    refine to_free rfl rfl rfl rfl rfl (fun _ _ hk => opv_fieldAddr0 rfl rfl rfl hk) ?_
    refine to_freeQ rfl rfl rfl rfl rfl (fun _ _ hq hk => opv_loadQ (hq.1) rfl rfl hk) ?_
    refine to_free rfl rfl rfl rfl rfl (fun _ _ hk => opv_move rfl rfl hk) ?_
    refine to_free rfl rfl rfl rfl rfl (fun _ _ hk => opv_nilCheck rfl rfl hk) ?_
    refine to_free rfl rfl rfl rfl rfl (fun _ _ hk => opv_fieldAddr0 rfl rfl rfl hk) ?_
    refine to_freeQ rfl rfl rfl rfl rfl (fun _ _ hq hk => opv_loadQ (hq.2) rfl rfl hk) ?_
    refine to_free rfl rfl rfl rfl rfl (fun _ _ hk => opv_indexAt (r := 2) rfl rfl rfl (by decide) (by simp) hk) ?_
    refine to_free rfl rfl rfl rfl rfl (fun _ _ hk => opv_load1 (by first | exact .inr (Has.has HF) | exact .inr (Has.has HR1) | exact .inr (Has.has (HR.mono hF1))) rfl rfl rfl hk) ?_
    refine to_free rfl rfl rfl rfl rfl (fun _ _ hk => opv_move rfl rfl hk) ?_
    refine to_free rfl rfl rfl rfl rfl (fun _ _ hk => opv_move rfl rfl hk) ?_
    refine to_effQ rfl rfl rfl rfl rfl (opv_call rfl rfl rfl (opv_to [] [0, 0] H (fun F2 h1 hF2 HR1 H1 => have hF := Hp.le_trans hF1 hF2; sh_down hm hlm H1) ?_))
    rintro v h1 h ⟨rfl, H1⟩ J
    have H := J H1
    refine ⟨⟨⟨_, _, _, Has.has H, rfl⟩, ⟨_, _, _, Has.has H, rfl⟩⟩, ?_⟩
    refine to_end fun h J => ?_
    have H := J H
    refine ud_op 17 (by kernel_rfl) (by kernel_rfl) rfl rfl rfl rfl (opv_arith rfl rfl rfl rfl rfl ?_)
    refine ud_op 18 (by kernel_rfl) (by kernel_rfl) rfl rfl rfl rfl (opv_nilCheck rfl rfl ?_)
    refine ud_op 19 (by kernel_rfl) (by kernel_rfl) rfl rfl rfl rfl (opv_fieldAddr0 rfl rfl rfl ?_)
    refine ud_op0 20 (by kernel_rfl) (by kernel_rfl) rfl rfl rfl rfl (opv_store H rfl rfl rfl rfl rfl rfl rfl fun h H => ?_)
    refine ud_end (by kernel_rfl) ?_
    repeat refine ur_seq ?_
    refine ur_draw Tryz.mixed (by kernel_rfl) ?_
    refine ud_all [0, 1, 2, 3, 4, 5, 6, 7, 8] (by kernel_rfl) (by kernel_rfl) H fun F1 hF1 HF => ?_
    refine to_free rfl rfl rfl rfl rfl (fun _ _ hk => opv_move rfl rfl hk) ?_
    refine to_free rfl rfl rfl rfl rfl (fun _ _ hk => opv_nilCheck rfl rfl hk) ?_
    refine to_free rfl rfl rfl rfl rfl (fun _ _ hk => opv_fieldAddr0 rfl rfl rfl hk) ?_
    refine to_free rfl rfl rfl rfl rfl (fun _ _ hk => opv_load1 (by first | exact .inr (Has.has HF) | exact .inr (Has.has HR1) | exact .inr (Has.has (HR.mono hF1))) rfl rfl rfl hk) ?_
    refine to_free rfl rfl rfl rfl rfl (fun _ _ hk => opv_move rfl rfl hk) ?_
    refine to_free rfl rfl rfl rfl rfl (fun _ _ hk => opv_nilCheck rfl rfl hk) ?_
    refine to_free rfl rfl rfl rfl rfl (fun _ _ hk => opv_fieldAddr0 rfl rfl rfl hk) ?_
    refine to_free rfl rfl rfl rfl rfl (fun _ _ hk => opv_load1 (by first | exact .inr (Has.has HF) | exact .inr (Has.has HR1) | exact .inr (Has.has (HR.mono hF1))) rfl rfl rfl hk) ?_
    refine to_free rfl rfl rfl rfl rfl (fun _ _ hk => opv_len rfl rfl hk) ?_
    refine to_end ?_
    refine ud_op 9 (by kernel_rfl) (by kernel_rfl) rfl rfl rfl rfl (opv_cmp rfl rfl rfl rfl ?_)
    refine ud_op 10 (by kernel_rfl) (by kernel_rfl) rfl rfl rfl rfl (opv_assign rfl rfl ?_)
    refine ud_end (by kernel_rfl) ?_
    have hp : IntKind.i64.wrap (2 + 9) = 11 := rfl
    rw [hp] at H
    refine ur_ret1 G Tryz.func367 rfl rfl ?_
    rw [hp]
    exact ⟨rfl, H.bring [0, 0, 0]⟩
  · -- no
    exact absurd hc1 (by decide)

theorem sh_step_done {b sb lim av k p : Nat} {mb : Nat} {nd n saw : Int} {a : Ans} {L : List HProp} (hd : k ≤ p) (H : Own (pt b (.cells (shl lim av nd n saw (.slice (some ⟨sb, 0, none⟩) k k) p a).toArray 292 (0, 0)) :: L) h) : CallS Tryz.prog F 367 [.pointer (some ⟨b, 0, none⟩), .pointer (some ⟨mb, 0, none⟩)].toArray h fun v h' => v = .bool true ∧ Own (pt b (.cells (shl lim av nd n saw (.slice (some ⟨sb, 0, none⟩) k k) p a).toArray 292 (0, 0)) :: L) h' := by
  refine callS_intro Tryz.func367 rfl rfl rfl fun C G => ?_
  repeat refine ur_seq ?_
  refine ur_region rfl ?_
  refine ur_opw rfl rfl rfl rfl rfl (opv_assign rfl rfl ?_)
  refine ur_region_end ?_
  repeat refine ur_seq ?_
  refine ur_draw Tryz.mixed (by kernel_rfl) ?_
  refine ud_all [0, 1, 2, 3, 4, 5, 6, 7, 8] (by kernel_rfl) (by kernel_rfl) H fun F1 hF1 HF => ?_
  refine to_free rfl rfl rfl rfl rfl (fun _ _ hk => opv_move rfl rfl hk) ?_
  refine to_free rfl rfl rfl rfl rfl (fun _ _ hk => opv_nilCheck rfl rfl hk) ?_
  refine to_free rfl rfl rfl rfl rfl (fun _ _ hk => opv_fieldAddr0 rfl rfl rfl hk) ?_
  refine to_free rfl rfl rfl rfl rfl (fun _ _ hk => opv_load1 (by first | exact .inr (Has.has HF) | exact .inr (Has.has HR1) | exact .inr (Has.has (HR.mono hF1))) rfl rfl rfl hk) ?_
  refine to_free rfl rfl rfl rfl rfl (fun _ _ hk => opv_move rfl rfl hk) ?_
  refine to_free rfl rfl rfl rfl rfl (fun _ _ hk => opv_nilCheck rfl rfl hk) ?_
  refine to_free rfl rfl rfl rfl rfl (fun _ _ hk => opv_fieldAddr0 rfl rfl rfl hk) ?_
  refine to_free rfl rfl rfl rfl rfl (fun _ _ hk => opv_load1 (by first | exact .inr (Has.has HF) | exact .inr (Has.has HR1) | exact .inr (Has.has (HR.mono hF1))) rfl rfl rfl hk) ?_
  refine to_free rfl rfl rfl rfl rfl (fun _ _ hk => opv_len rfl rfl hk) ?_
  refine to_end ?_
  refine ud_op 9 (by kernel_rfl) (by kernel_rfl) rfl rfl rfl rfl (opv_cmp rfl rfl rfl rfl ?_)
  refine ud_end (by kernel_rfl) ?_
  repeat refine ur_seq ?_
  refine ur_cond rfl (fun hc1 => ?_) (fun hc1 => ?_)
  · -- yes
    try simp only [decide_eq_true_eq, decide_eq_false_iff_not, Bool.not_eq_true', Bool.not_eq_false', beq_iff_eq, bne_iff_ne, beq_eq_false_iff_ne, bne_eq_false_iff_eq, ne_eq, Decidable.not_not] at hc1
    exact absurd hc1 (by omega)
  · -- no
    try simp only [decide_eq_true_eq, decide_eq_false_iff_not, Bool.not_eq_true', Bool.not_eq_false', beq_iff_eq, bne_iff_ne, beq_eq_false_iff_ne, bne_eq_false_iff_eq, ne_eq, Decidable.not_not] at hc1
    refine ur_skip ?_
    repeat refine ur_seq ?_
    refine ur_draw Tryz.mixed (by kernel_rfl) ?_
    refine ud_all [0, 1, 2, 3, 4, 5, 6, 7, 8] (by kernel_rfl) (by kernel_rfl) H fun F1 hF1 HF => ?_
    refine to_free rfl rfl rfl rfl rfl (fun _ _ hk => opv_move rfl rfl hk) ?_
    refine to_free rfl rfl rfl rfl rfl (fun _ _ hk => opv_nilCheck rfl rfl hk) ?_
    refine to_free rfl rfl rfl rfl rfl (fun _ _ hk => opv_fieldAddr0 rfl rfl rfl hk) ?_
    refine to_free rfl rfl rfl rfl rfl (fun _ _ hk => opv_load1 (by first | exact .inr (Has.has HF) | exact .inr (Has.has HR1) | exact .inr (Has.has (HR.mono hF1))) rfl rfl rfl hk) ?_
    refine to_free rfl rfl rfl rfl rfl (fun _ _ hk => opv_move rfl rfl hk) ?_
    refine to_free rfl rfl rfl rfl rfl (fun _ _ hk => opv_nilCheck rfl rfl hk) ?_
    refine to_free rfl rfl rfl rfl rfl (fun _ _ hk => opv_fieldAddr0 rfl rfl rfl hk) ?_
    refine to_free rfl rfl rfl rfl rfl (fun _ _ hk => opv_load1 (by first | exact .inr (Has.has HF) | exact .inr (Has.has HR1) | exact .inr (Has.has (HR.mono hF1))) rfl rfl rfl hk) ?_
    refine to_free rfl rfl rfl rfl rfl (fun _ _ hk => opv_len rfl rfl hk) ?_
    refine to_end ?_
    refine ud_op 9 (by kernel_rfl) (by kernel_rfl) rfl rfl rfl rfl (opv_cmp rfl rfl rfl rfl ?_)
    refine ud_op 10 (by kernel_rfl) (by kernel_rfl) rfl rfl rfl rfl (opv_assign rfl rfl ?_)
    refine ud_end (by kernel_rfl) ?_
    exact ur_ret1 G Tryz.func367 rfl rfl ⟨by simp; omega, H⟩

theorem sh_made (o : c.Ok) {u n : Int} {sa : Option Addr} {k : Nat} (h0 : 0 ≤ u) (hu : u < c.parents.length) : CallS Tryz.prog F 245 [.agg (cfv c A).toArray, .int .i64 u, .int .i64 n, .slice sa k k].toArray h fun v h' => ∃ b, v = .pointer (some ⟨b, 0, none⟩) ∧ Own [pt b (.cells (shl (c.limitAt u).toNat (c.availAt u).toNat u n 0 (.slice sa k k) 0 .zero).toArray 292 (0, 0))] h' := by
  refine callS_intro Tryz.func245 rfl rfl rfl fun C G => ?_
  have hn := o.nodes
  have h1 := o.limitAt h0 (by omega)
  have e1 := Int.toNat_of_nonneg h1.1
  have e2 := Int.toNat_of_nonneg (show 0 ≤ c.availAt u by unfold Cf.availAt; omega)
  have H : Own [] h := trivial
  repeat refine ur_seq ?_
  refine ur_region rfl ?_
  refine ur_opw rfl rfl rfl rfl rfl (opv_box H rfl rfl fun b1 h hb1 H => ?_)
  refine ur_opw rfl rfl rfl rfl rfl (opv_assign rfl rfl ?_)
  refine ur_region_end ?_
  repeat refine ur_seq ?_
  refine ur_draw Tryz.mixed (by kernel_rfl) ?_
  refine ud_ro [0] [0, 1, 3, 4, 6, 7, 8, 2, 5] [0, 1, 3, 4, 6, 7, 8] (by kernel_rfl) (by kernel_rfl) H fun F1 h hF1 HF H => ?_
  refine to_free rfl rfl rfl rfl rfl (fun _ _ hk => opv_loadA (by first | exact .inr (Has.has HF) | exact .inr (Has.has HR1) | exact .inr (Has.has (HR.mono hF1))) rfl rfl hk) ?_
  refine to_free rfl rfl rfl rfl rfl (fun _ _ hk => opv_move rfl rfl hk) ?_
  refine to_free rfl rfl rfl rfl rfl (fun _ _ hk => opv_loadA (by first | exact .inr (Has.has HF) | exact .inr (Has.has HR1) | exact .inr (Has.has (HR.mono hF1))) rfl rfl hk) ?_
  refine to_free rfl rfl rfl rfl rfl (fun _ _ hk => opv_move rfl rfl hk) ?_
  refine to_free rfl rfl rfl rfl rfl (fun _ _ hk => opv_move rfl rfl hk) ?_
  refine to_free rfl rfl rfl rfl rfl (fun _ _ hk => opv_move rfl rfl hk) ?_
  refine to_free rfl rfl rfl rfl rfl (fun _ _ hk => opv_move rfl rfl hk) ?_
  refine to_eff rfl rfl rfl rfl rfl (opv_call rfl rfl rfl (opv_to [] [] H (fun F2 h1 hF2 HR1 H1 => have hF := Hp.le_trans hF1 hF2; plan_limit o h0 (by omega)) ?_))
  rintro v h1 h ⟨rfl, H1⟩ J
  have H := J H1
  refine to_eff rfl rfl rfl rfl rfl (opv_call rfl rfl rfl (opv_to [] [] H (fun F2 h1 hF2 HR1 H1 => have hF := Hp.le_trans hF1 hF2; plan_avail o h0 (by omega)) ?_))
  rintro v h1 h ⟨rfl, H1⟩ J
  have H := J H1
  refine to_end fun h J => ?_
  have H := J H
  refine ud_op 9 (by kernel_rfl) (by kernel_rfl) rfl rfl rfl rfl (opv_build rfl rfl ?_)
  refine ud_op 10 (by kernel_rfl) (by kernel_rfl) rfl rfl rfl rfl (opv_box H rfl rfl fun b2 h hb2 H => ?_)
  refine ud_op 11 (by kernel_rfl) (by kernel_rfl) rfl rfl rfl rfl (opv_assign rfl rfl ?_)
  refine ud_end (by kernel_rfl) ?_
  refine ur_ret1 G Tryz.func245 rfl rfl ⟨_, rfl, ?_⟩
  rw [← e1, ← e2] at H
  exact H.keep [0]

theorem sh_refund (o : c.Ok) {u n : Int} (h0 : 0 ≤ u) (hu : u < c.parents.length) : CallS Tryz.prog F 281 [.agg (cfv c A).toArray, .int .i64 u, .int .i64 n].toArray h fun v h' => ∃ b, v = .pointer (some ⟨b, 0, none⟩) ∧ Own [ShR b (Sh.mk' .refund c u n)] h' := by
  refine callS_intro Tryz.func281 rfl rfl rfl fun C G => ?_
  have H : Own [] h := trivial
  repeat refine ur_seq ?_
  refine ur_region rfl ?_
  refine ur_opw rfl rfl rfl rfl rfl (opv_box H rfl rfl fun b1 h hb1 H => ?_)
  refine ur_opw rfl rfl rfl rfl rfl (opv_assign rfl rfl ?_)
  refine ur_region_end ?_
  repeat refine ur_seq ?_
  refine ur_region rfl ?_
  refine ur_opw rfl rfl rfl rfl rfl (opv_loadA (by first | exact .inl (Has.has H) | exact .inr (Has.has HR)) rfl rfl ?_)
  refine ur_opw rfl rfl rfl rfl rfl (opv_move rfl rfl ?_)
  refine ur_opw rfl rfl rfl rfl rfl (opv_move rfl rfl ?_)
  refine ur_opw rfl rfl rfl rfl rfl (opv_buildSlice H rfl rfl rfl rfl rfl fun b2 h hb2 H => ?_)
  refine ur_opw rfl rfl rfl rfl rfl (opv_call rfl rfl rfl (opv_to [] [] H (fun F1 h1 hF HR1 H1 => sh_made o h0 hu) ?_))
  rintro v h1 h ⟨b, rfl, H1⟩ J
  have H := J H1
  refine ur_opw rfl rfl rfl rfl rfl (opv_assign rfl rfl ?_)
  refine ur_region_end ?_
  exact ur_ret1 G Tryz.func281 rfl rfl ⟨b, rfl, (Own.fold [0, 0] H fun h H => ⟨_, H⟩).keep [0]⟩

theorem sh_raise (o : c.Ok) {u n : Int} (h0 : 0 ≤ u) (hu : u < c.parents.length) : CallS Tryz.prog F 205 [.agg (cfv c A).toArray, .int .i64 u, .int .i64 n].toArray h fun v h' => ∃ b, v = .pointer (some ⟨b, 0, none⟩) ∧ Own [ShR b (Sh.mk' .raise c u n)] h' := by
  refine callS_intro Tryz.func205 rfl rfl rfl fun C G => ?_
  have H : Own [] h := trivial
  repeat refine ur_seq ?_
  refine ur_region rfl ?_
  refine ur_opw rfl rfl rfl rfl rfl (opv_box H rfl rfl fun b1 h hb1 H => ?_)
  refine ur_opw rfl rfl rfl rfl rfl (opv_assign rfl rfl ?_)
  refine ur_region_end ?_
  repeat refine ur_seq ?_
  refine ur_region rfl ?_
  refine ur_opw rfl rfl rfl rfl rfl (opv_loadA (by first | exact .inl (Has.has H) | exact .inr (Has.has HR)) rfl rfl ?_)
  refine ur_opw rfl rfl rfl rfl rfl (opv_move rfl rfl ?_)
  refine ur_opw rfl rfl rfl rfl rfl (opv_move rfl rfl ?_)
  refine ur_opw rfl rfl rfl rfl rfl (opv_buildSlice H rfl rfl rfl rfl rfl fun b2 h hb2 H => ?_)
  refine ur_opw rfl rfl rfl rfl rfl (opv_call rfl rfl rfl (opv_to [] [] H (fun F1 h1 hF HR1 H1 => sh_made o h0 hu) ?_))
  rintro v h1 h ⟨b, rfl, H1⟩ J
  have H := J H1
  refine ur_opw rfl rfl rfl rfl rfl (opv_assign rfl rfl ?_)
  refine ur_region_end ?_
  exact ur_ret1 G Tryz.func205 rfl rfl ⟨b, rfl, (Own.fold [0, 0] H fun h H => ⟨_, H⟩).keep [0]⟩

theorem sh_lower (o : c.Ok) {u n : Int} (h0 : 0 ≤ u) (hu : u < c.parents.length) : CallS Tryz.prog F 207 [.agg (cfv c A).toArray, .int .i64 u, .int .i64 n].toArray h fun v h' => ∃ b, v = .pointer (some ⟨b, 0, none⟩) ∧ Own [ShR b (Sh.mk' .lower c u n)] h' := by
  refine callS_intro Tryz.func207 rfl rfl rfl fun C G => ?_
  have H : Own [] h := trivial
  repeat refine ur_seq ?_
  refine ur_region rfl ?_
  refine ur_opw rfl rfl rfl rfl rfl (opv_box H rfl rfl fun b1 h hb1 H => ?_)
  refine ur_opw rfl rfl rfl rfl rfl (opv_assign rfl rfl ?_)
  refine ur_region_end ?_
  repeat refine ur_seq ?_
  refine ur_region rfl ?_
  refine ur_opw rfl rfl rfl rfl rfl (opv_loadA (by first | exact .inl (Has.has H) | exact .inr (Has.has HR)) rfl rfl ?_)
  refine ur_opw rfl rfl rfl rfl rfl (opv_move rfl rfl ?_)
  refine ur_opw rfl rfl rfl rfl rfl (opv_move rfl rfl ?_)
  refine ur_opw rfl rfl rfl rfl rfl (opv_buildSlice H rfl rfl rfl rfl rfl fun b2 h hb2 H => ?_)
  refine ur_opw rfl rfl rfl rfl rfl (opv_call rfl rfl rfl (opv_to [] [] H (fun F1 h1 hF HR1 H1 => sh_made o h0 hu) ?_))
  rintro v h1 h ⟨b, rfl, H1⟩ J
  have H := J H1
  refine ur_opw rfl rfl rfl rfl rfl (opv_assign rfl rfl ?_)
  refine ur_region_end ?_
  exact ur_ret1 G Tryz.func207 rfl rfl ⟨b, rfl, (Own.fold [0, 0] H fun h H => ⟨_, H⟩).keep [0]⟩

theorem sh_ans {b : Nat} {s : Sh} (H : Own [ShR b s] h) : CallS Tryz.prog F 366 [.pointer (some ⟨b, 0, none⟩)].toArray h fun v h' => v = .agg (ansv s.ans).toArray ∧ Own [ShR b s] h' := by
  refine callS_intro Tryz.func366 rfl rfl rfl fun C G => ?_
  obtain ⟨sb, H⟩ := Own.ex1 H
  simp only [List.cons_append, List.nil_append] at H
  repeat refine ur_seq ?_
  refine ur_region rfl ?_
  refine ur_opw rfl rfl rfl rfl rfl (opv_alloc H rfl fun b1 h hb1 H => ?_)
  refine ur_region_end ?_
  repeat refine ur_seq ?_
  refine ur_region rfl ?_
  refine ur_opw rfl rfl rfl rfl rfl (opv_move rfl rfl ?_)
  refine ur_opw rfl rfl rfl rfl rfl (opv_nilCheck rfl rfl ?_)
  refine ur_opw rfl rfl rfl rfl rfl (opv_fieldAddr0 rfl rfl rfl ?_)
  refine ur_opw rfl rfl rfl rfl rfl (opv_loadA (by first | exact .inl (Has.has H) | exact .inr (Has.has HR)) rfl rfl ?_)
  refine ur_opw0 rfl rfl rfl rfl (opv_store H rfl rfl rfl rfl rfl rfl rfl fun h H => ?_)
  refine ur_region_end ?_
  exact ur_retA G H Tryz.func366 rfl rfl ⟨rfl, (Own.fold [1, 1] H fun h H => ⟨sb, H⟩).keep [0]⟩

theorem sh_step {b mb m : Nat} {s : Sh} {ws : List Int} (hm : m < 2 ^ 30) (hlm : s.limit < ws.length) (hav : s.avail < ws.length) (H : Own [ShR b s, MemR mb ws m] h) :
    CallS Tryz.prog F 367 [.pointer (some ⟨b, 0, none⟩), .pointer (some ⟨mb, 0, none⟩)].toArray h fun v h' => v = .bool (s.stepX ws).1.done ∧ Own [ShR b (s.stepX ws).1, MemR mb (s.stepX ws).2 (if s.done then m else m + 1)] h' := by
  obtain ⟨sb, H⟩ := Own.ex1 H
  simp only [List.cons_append, List.nil_append] at H
  obtain ⟨k, limit, avail, node, n, saw, pos, ans⟩ := s
  by_cases hd : k.len ≤ pos
  · have e : (Sh.stepX ⟨k, limit, avail, node, n, saw, pos, ans⟩ ws) = (⟨k, limit, avail, node, n, saw, pos, ans⟩, ws) := by simp [Sh.stepX, Sh.done, hd]
    rw [e]
    refine (sh_step_done hd H).mono ?_
    rintro v h' ⟨rfl, H⟩
    exact ⟨by simp [Sh.done, hd], by simpa [Sh.done, hd] using Own.fold (A := ShR b ⟨k, limit, avail, node, n, saw, pos, ans⟩) [0, 0] H fun h H => ⟨sb, H⟩⟩
  · have e : (Sh.stepX ⟨k, limit, avail, node, n, saw, pos, ans⟩ ws) = Sh.go ⟨k, limit, avail, node, n, saw, pos, ans⟩ ws := by simp [Sh.stepX, Sh.done, hd]
    rw [e]
    have e2 : (if Sh.done ⟨k, limit, avail, node, n, saw, pos, ans⟩ then m else m + 1) = m + 1 := by simp [Sh.done, hd]
    rw [e2]
    cases k <;> simp only [ShK.len] at hd
    · -- refund
      have hp : pos = 0 := by omega
      rcases hp with rfl
      · refine (sh_step_refund0 hm hlm hav H).mono ?_
        rintro v h' ⟨rfl, H⟩
        exact ⟨by simp [Sh.go, Sh.done, ShK.len] <;> split <;> simp, Own.fold (A := ShR b (Sh.go ⟨.refund, limit, avail, node, n, saw, 0, ans⟩ ws).1) [0, 1] H fun h H => ⟨sb, by simpa [Sh.go, ShK.len, iteC] using H⟩⟩
    · -- raise
      have hp : pos = 0 ∨ pos = 1 ∨ pos = 2 := by omega
      rcases hp with rfl | rfl | rfl
      · refine (sh_step_raise0 hm hlm hav H).mono ?_
        rintro v h' ⟨rfl, H⟩
        exact ⟨by simp [Sh.go, Sh.done, ShK.len] <;> split <;> simp, Own.fold (A := ShR b (Sh.go ⟨.raise, limit, avail, node, n, saw, 0, ans⟩ ws).1) [0, 1] H fun h H => ⟨sb, by simpa [Sh.go, ShK.len, iteC] using H⟩⟩
      · refine (sh_step_raise1 hm hlm hav H).mono ?_
        rintro v h' ⟨rfl, H⟩
        exact ⟨by simp [Sh.go, Sh.done, ShK.len] <;> split <;> simp, Own.fold (A := ShR b (Sh.go ⟨.raise, limit, avail, node, n, saw, 1, ans⟩ ws).1) [0, 1] H fun h H => ⟨sb, by simpa [Sh.go, ShK.len, iteC] using H⟩⟩
      · refine (sh_step_raise2 hm hlm hav H).mono ?_
        rintro v h' ⟨rfl, H⟩
        exact ⟨by simp [Sh.go, Sh.done, ShK.len] <;> split <;> simp, Own.fold (A := ShR b (Sh.go ⟨.raise, limit, avail, node, n, saw, 2, ans⟩ ws).1) [0, 1] H fun h H => ⟨sb, by simpa [Sh.go, ShK.len, iteC] using H⟩⟩
    · -- lower
      have hp : pos = 0 ∨ pos = 1 ∨ pos = 2 := by omega
      rcases hp with rfl | rfl | rfl
      · refine (sh_step_lower0 hm hlm hav H).mono ?_
        rintro v h' ⟨rfl, H⟩
        exact ⟨by simp [Sh.go, Sh.done, ShK.len] <;> split <;> simp, Own.fold (A := ShR b (Sh.go ⟨.lower, limit, avail, node, n, saw, 0, ans⟩ ws).1) [0, 1] H fun h H => ⟨sb, by simpa [Sh.go, ShK.len, iteC] using H⟩⟩
      · refine (sh_step_lower1 hm hlm hav H).mono ?_
        rintro v h' ⟨rfl, H⟩
        exact ⟨by simp [Sh.go, Sh.done, ShK.len] <;> split <;> simp, Own.fold (A := ShR b (Sh.go ⟨.lower, limit, avail, node, n, saw, 1, ans⟩ ws).1) [0, 1] H fun h H => ⟨sb, by simpa [Sh.go, ShK.len, iteC] using H⟩⟩
      · refine (sh_step_lower2 hm hlm hav H).mono ?_
        rintro v h' ⟨rfl, H⟩
        exact ⟨by simp [Sh.go, Sh.done, ShK.len] <;> split <;> simp, Own.fold (A := ShR b (Sh.go ⟨.lower, limit, avail, node, n, saw, 2, ans⟩ ws).1) [0, 1] H fun h H => ⟨sb, by simpa [Sh.go, ShK.len, iteC] using H⟩⟩
end Go.Proofs
