/- Package mem: contracts. -/
import Derived.Test.YtnfcoikbkmhggaaGreatBase
set_option linter.all false
set_option linter.unusedVariables false
set_option linter.unusedSimpArgs false
namespace Go.Proofs
open Go.BL
variable {F h : Hp}

abbrev acc (k w A B : Int) (ok : Bool) : List Value := [.int .i64 k, .int .i64 w, .int .i64 A, .int .i64 B, .bool ok]
/-- Words ws, and n accesses, behind the pointer to block mb. -/
def MemR (mb : Nat) (ws : List Int) (n : Nat) : HProp := fun h => ∃ (wb : Nat) (la : Option Addr) (lc : Nat) (lcs : List Value),
  ones lcs = true ∧ Own [pt mb (.cells [.slice (some ⟨wb, 0, none⟩) ws.length ws.length, .slice la n lc].toArray 143 (0, 0)), pt wb (.cells (ints ws).toArray 3 (0, 0)), SlR 197 5 la n lc lcs] h
theorem MemR.open {mb : Nat} {ws : List Int} {n : Nat} {L : List HProp} (H : Own (MemR mb ws n :: L) h) : ∃ (wb : Nat) (la : Option Addr) (lc : Nat) (lcs : List Value),
    ones lcs = true ∧ Own (pt mb (.cells [.slice (some ⟨wb, 0, none⟩) ws.length ws.length, .slice la n lc].toArray 143 (0, 0)) :: pt wb (.cells (ints ws).toArray 3 (0, 0)) :: SlR 197 5 la n lc lcs :: L) h := by
  obtain ⟨h1, h2, d, l, ⟨wb, la, lc, lcs, q, a⟩, o⟩ := H
  exact ⟨wb, la, lc, lcs, q, Own.join d l a o⟩

theorem loadF {wb ab i : Nat} {ws : List Int} {k w A B x : Int} {ok : Bool} (hx : ws[i]? = some x)  (H : Own [pt wb (.cells (ints ws).toArray 3 (0, 0)), pt ab (.cells (acc k w A B ok).toArray 197 (0, 0))] h) :
    CallS Tryz.prog F 305 [.pointer (some ⟨wb, i, none⟩), .pointer (some ⟨ab, 0, none⟩)].toArray h fun v h' => v = .tuple #[] ∧ Own [pt wb (.cells (ints ws).toArray 3 (0, 0)), pt ab (.cells (acc k w x B ok).toArray 197 (0, 0))] h' := by
  have hi : i < (ints ws).length := by simp; exact (List.getElem?_eq_some_iff.1 hx).1
  refine callS_intro Tryz.func305 rfl rfl rfl fun C G => ?_
  refine ur_region rfl ?_
  refine ur_opw rfl rfl rfl rfl rfl (opv_move rfl rfl ?_)
  refine ur_opw rfl rfl rfl rfl rfl (opv_move rfl rfl ?_)
  refine ur_opw rfl rfl rfl rfl rfl (opv_nilCheck rfl rfl ?_)
  refine ur_opw rfl rfl rfl rfl rfl (opv_load1 (by first | exact .inl (Has.has H) | exact .inr (Has.has HR)) rfl rfl (ints_get hx) ?_)
  refine ur_opw rfl rfl rfl rfl rfl (opv_nilCheck rfl rfl ?_)
  refine ur_opw rfl rfl rfl rfl rfl (opv_fieldAddr0 rfl rfl rfl ?_)
  refine ur_opw0 rfl rfl rfl rfl (opv_store H rfl rfl rfl rfl rfl rfl rfl fun h H => ?_)
  refine ur_region_end ?_
  exact ur_end0 G Tryz.func305 rfl ⟨rfl, H⟩

theorem addF {wb ab i : Nat} {ws : List Int} {k w A B x : Int} {ok : Bool} (hx : ws[i]? = some x) {db : Nat} {d : Int} (HR : Own [pt db (.cells [.int .i64 d].toArray 3 (0, 0))] F) (H : Own [pt wb (.cells (ints ws).toArray 3 (0, 0)), pt ab (.cells (acc k w A B ok).toArray 197 (0, 0))] h) :
    CallS Tryz.prog F 309 [.pointer (some ⟨wb, i, none⟩), .pointer (some ⟨ab, 0, none⟩), .pointer (some ⟨db, 0, none⟩)].toArray h fun v h' => v = .tuple #[] ∧ Own [pt wb (.cells (ints (ws.set i (IntKind.i64.wrap (x + d)))).toArray 3 (0, 0)), pt ab (.cells (acc k w d (IntKind.i64.wrap (x + d)) ok).toArray 197 (0, 0))] h' := by
  have hi : i < (ints ws).length := by simp; exact (List.getElem?_eq_some_iff.1 hx).1
  refine callS_intro Tryz.func309 rfl rfl rfl fun C G => ?_
  repeat refine ur_seq ?_
  refine ur_draw Tryz.mixed (by kernel_rfl) ?_
  refine ud_all [0, 1, 2, 3] (by kernel_rfl) (by kernel_rfl) H fun F1 hF1 HF => ?_
  refine to_free rfl rfl rfl rfl rfl (fun _ _ hk => opv_move rfl rfl hk) ?_
  refine to_free rfl rfl rfl rfl rfl (fun _ _ hk => opv_nilCheck rfl rfl hk) ?_
  refine to_free rfl rfl rfl rfl rfl (fun _ _ hk => opv_load1 (by first | exact .inr (Has.has HF) | exact .inr (Has.has HR1) | exact .inr (Has.has (HR.mono hF1))) rfl rfl (ints_get hx) hk) ?_
  refine to_free rfl rfl rfl rfl rfl (fun _ _ hk => opv_load1 (by first | exact .inr (Has.has HF) | exact .inr (Has.has HR1) | exact .inr (Has.has (HR.mono hF1))) rfl rfl rfl hk) ?_
  refine to_end ?_
  refine ud_op 4 (by kernel_rfl) (by kernel_rfl) rfl rfl rfl rfl (opv_arith rfl rfl rfl rfl (by first | exact wi (by omega) | rfl) ?_)
  refine ud_op 5 (by kernel_rfl) (by kernel_rfl) rfl rfl rfl rfl (opv_nilCheck rfl rfl ?_)
  refine ud_op0 6 (by kernel_rfl) (by kernel_rfl) rfl rfl rfl rfl (opv_storeI H rfl rfl rfl rfl rfl rfl hi fun h H => ?_)
  refine ud_end (by kernel_rfl) ?_
  refine ur_draw Tryz.mixed (by kernel_rfl) ?_
  rw [ints_set] at H
  have hx2 : (ws.set i (IntKind.i64.wrap (x + d)))[i]? = some (IntKind.i64.wrap (x + d)) := by simp [(List.getElem?_eq_some_iff.1 hx).1]
  refine ud_ro [0] [0, 1, 2, 3, 4, 5, 6, 7, 8] [0, 1, 2, 3, 4, 5, 6, 7] (by kernel_rfl) (by kernel_rfl) H fun F1 h hF1 HF H => ?_
  refine to_free rfl rfl rfl rfl rfl (fun _ _ hk => opv_move rfl rfl hk) ?_
  refine to_free rfl rfl rfl rfl rfl (fun _ _ hk => opv_move rfl rfl hk) ?_
  refine to_free rfl rfl rfl rfl rfl (fun _ _ hk => opv_load1 (by first | exact .inr (Has.has HF) | exact .inr (Has.has HR1) | exact .inr (Has.has (HR.mono hF1))) rfl rfl rfl hk) ?_
  refine to_free rfl rfl rfl rfl rfl (fun _ _ hk => opv_move rfl rfl hk) ?_
  refine to_free rfl rfl rfl rfl rfl (fun _ _ hk => opv_nilCheck rfl rfl hk) ?_
  refine to_free rfl rfl rfl rfl rfl (fun _ _ hk => opv_load1 (by first | exact .inr (Has.has HF) | exact .inr (Has.has HR1) | exact .inr (Has.has (HR.mono hF1))) rfl rfl (ints_get hx2) hk) ?_
  refine to_free rfl rfl rfl rfl rfl (fun _ _ hk => opv_nilCheck rfl rfl hk) ?_
  refine to_free rfl rfl rfl rfl rfl (fun _ _ hk => opv_fieldAddr0 rfl rfl rfl hk) ?_
  refine to_eff0 rfl rfl rfl rfl rfl (opv_store H rfl rfl rfl rfl rfl rfl rfl fun h H => ?_)
  refine to_end fun h J => ?_
  have H := J H
  refine ud_op 9 (by kernel_rfl) (by kernel_rfl) rfl rfl rfl rfl (opv_nilCheck rfl rfl ?_)
  refine ud_op 10 (by kernel_rfl) (by kernel_rfl) rfl rfl rfl rfl (opv_fieldAddr0 rfl rfl rfl ?_)
  refine ud_op0 11 (by kernel_rfl) (by kernel_rfl) rfl rfl rfl rfl (opv_store H rfl rfl rfl rfl rfl rfl rfl fun h H => ?_)
  refine ud_end (by kernel_rfl) ?_
  exact ur_end0 G Tryz.func309 rfl ⟨rfl, H.bring [1]⟩

theorem storeF {wb ab i : Nat} {ws : List Int} {k w A B x : Int} {ok : Bool} (hx : ws[i]? = some x) {db : Nat} {d : Int} (HR : Own [pt db (.cells [.int .i64 d].toArray 3 (0, 0))] F) (H : Own [pt wb (.cells (ints ws).toArray 3 (0, 0)), pt ab (.cells (acc k w A B ok).toArray 197 (0, 0))] h) :
    CallS Tryz.prog F 326 [.pointer (some ⟨wb, i, none⟩), .pointer (some ⟨ab, 0, none⟩), .pointer (some ⟨db, 0, none⟩)].toArray h fun v h' => v = .tuple #[] ∧ Own [pt wb (.cells (ints (ws.set i d)).toArray 3 (0, 0)), pt ab (.cells (acc k w d B ok).toArray 197 (0, 0))] h' := by
  have hi : i < (ints ws).length := by simp; exact (List.getElem?_eq_some_iff.1 hx).1
  refine callS_intro Tryz.func326 rfl rfl rfl fun C G => ?_
  refine ur_draw Tryz.mixed (by kernel_rfl) ?_
  refine ud_ro [] [0, 1, 2, 3, 4, 5] [0, 1, 2, 3, 4] (by kernel_rfl) (by kernel_rfl) H fun F1 h hF1 HF H => ?_
  refine to_free rfl rfl rfl rfl rfl (fun _ _ hk => opv_move rfl rfl hk) ?_
  refine to_free rfl rfl rfl rfl rfl (fun _ _ hk => opv_move rfl rfl hk) ?_
  refine to_free rfl rfl rfl rfl rfl (fun _ _ hk => opv_load1 (by first | exact .inr (Has.has HF) | exact .inr (Has.has HR1) | exact .inr (Has.has (HR.mono hF1))) rfl rfl rfl hk) ?_
  refine to_free rfl rfl rfl rfl rfl (fun _ _ hk => opv_load1 (by first | exact .inr (Has.has HF) | exact .inr (Has.has HR1) | exact .inr (Has.has (HR.mono hF1))) rfl rfl rfl hk) ?_
  refine to_free rfl rfl rfl rfl rfl (fun _ _ hk => opv_nilCheck rfl rfl hk) ?_
  refine to_eff0 rfl rfl rfl rfl rfl (opv_storeI H rfl rfl rfl rfl rfl rfl hi fun h H => ?_)
  refine to_end fun h J => ?_
  have H := J H
  refine ud_op 6 (by kernel_rfl) (by kernel_rfl) rfl rfl rfl rfl (opv_nilCheck rfl rfl ?_)
  refine ud_op 7 (by kernel_rfl) (by kernel_rfl) rfl rfl rfl rfl (opv_fieldAddr0 rfl rfl rfl ?_)
  refine ud_op0 8 (by kernel_rfl) (by kernel_rfl) rfl rfl rfl rfl (opv_store H rfl rfl rfl rfl rfl rfl rfl fun h H => ?_)
  refine ud_end (by kernel_rfl) ?_
  exact ur_end0 G Tryz.func326 rfl ⟨rfl, by rw [ints_set] at H; exact H.bring [0]⟩

theorem casF {wb ab i : Nat} {ws : List Int} {k w A B x : Int} {ok : Bool} (hx : ws[i]? = some x) {ob nb : Nat} {u y : Int} (HR : Own [pt ob (.cells [.int .i64 u].toArray 3 (0, 0)), pt nb (.cells [.int .i64 y].toArray 3 (0, 0))] F) (H : Own [pt wb (.cells (ints ws).toArray 3 (0, 0)), pt ab (.cells (acc k w A B ok).toArray 197 (0, 0))] h) :
    CallS Tryz.prog F 306 [.pointer (some ⟨wb, i, none⟩), .pointer (some ⟨ab, 0, none⟩), .pointer (some ⟨ob, 0, none⟩), .pointer (some ⟨nb, 0, none⟩)].toArray h fun v h' => v = .tuple #[] ∧ Own [pt wb (.cells (ints (if x = u then ws.set i y else ws)).toArray 3 (0, 0)), pt ab (.cells (acc k w u y (x == u)).toArray 197 (0, 0))] h' := by
  have hi : i < (ints ws).length := by simp; exact (List.getElem?_eq_some_iff.1 hx).1
  refine callS_intro Tryz.func306 rfl rfl rfl fun C G => ?_
  repeat refine ur_seq ?_
  refine ur_draw Tryz.mixed (by kernel_rfl) ?_
  refine ud_ro [0] [0, 1, 2, 3, 4, 5, 6, 7, 8, 9, 10, 11, 12, 13, 14, 15] [0, 1, 2, 3, 4, 5, 6, 7, 8, 9, 10, 11, 13, 14] (by kernel_rfl) (by kernel_rfl) H fun F1 h hF1 HF H => ?_
  refine to_free rfl rfl rfl rfl rfl (fun _ _ hk => opv_move rfl rfl hk) ?_
  refine to_free rfl rfl rfl rfl rfl (fun _ _ hk => opv_move rfl rfl hk) ?_
  refine to_free rfl rfl rfl rfl rfl (fun _ _ hk => opv_move rfl rfl hk) ?_
  refine to_free rfl rfl rfl rfl rfl (fun _ _ hk => opv_load1 (by first | exact .inr (Has.has HF) | exact .inr (Has.has HR1) | exact .inr (Has.has (HR.mono hF1))) rfl rfl rfl hk) ?_
  refine to_free rfl rfl rfl rfl rfl (fun _ _ hk => opv_load1 (by first | exact .inr (Has.has HF) | exact .inr (Has.has HR1) | exact .inr (Has.has (HR.mono hF1))) rfl rfl rfl hk) ?_
  refine to_free rfl rfl rfl rfl rfl (fun _ _ hk => opv_move rfl rfl hk) ?_
  refine to_free rfl rfl rfl rfl rfl (fun _ _ hk => opv_nilCheck rfl rfl hk) ?_
  refine to_free rfl rfl rfl rfl rfl (fun _ _ hk => opv_load1 (by first | exact .inr (Has.has HF) | exact .inr (Has.has HR1) | exact .inr (Has.has (HR.mono hF1))) rfl rfl (ints_get hx) hk) ?_
  refine to_free rfl rfl rfl rfl rfl (fun _ _ hk => opv_load1 (by first | exact .inr (Has.has HF) | exact .inr (Has.has HR1) | exact .inr (Has.has (HR.mono hF1))) rfl rfl rfl hk) ?_
  refine to_free rfl rfl rfl rfl rfl (fun _ _ hk => opv_cmp rfl rfl rfl rfl hk) ?_
  refine to_free rfl rfl rfl rfl rfl (fun _ _ hk => opv_nilCheck rfl rfl hk) ?_
  refine to_free rfl rfl rfl rfl rfl (fun _ _ hk => opv_fieldAddr0 rfl rfl rfl hk) ?_
  refine to_eff0 rfl rfl rfl rfl rfl (opv_store H rfl rfl rfl rfl rfl rfl rfl fun h H => ?_)
  refine to_free rfl rfl rfl rfl rfl (fun _ _ hk => opv_nilCheck rfl rfl hk) ?_
  refine to_free rfl rfl rfl rfl rfl (fun _ _ hk => opv_fieldAddr0 rfl rfl rfl hk) ?_
  refine to_eff0 rfl rfl rfl rfl rfl (opv_store H rfl rfl rfl rfl rfl rfl rfl fun h H => ?_)
  refine to_end fun h J => ?_
  have H := J H
  refine ud_op 16 (by kernel_rfl) (by kernel_rfl) rfl rfl rfl rfl (opv_nilCheck rfl rfl ?_)
  refine ud_op 17 (by kernel_rfl) (by kernel_rfl) rfl rfl rfl rfl (opv_fieldAddr0 rfl rfl rfl ?_)
  refine ud_op0 18 (by kernel_rfl) (by kernel_rfl) rfl rfl rfl rfl (opv_store H rfl rfl rfl rfl rfl rfl rfl fun h H => ?_)
  refine ud_end (by kernel_rfl) ?_
  repeat refine ur_seq ?_
  refine ur_region rfl ?_
  refine ur_opw rfl rfl rfl rfl rfl (opv_move rfl rfl ?_)
  refine ur_opw rfl rfl rfl rfl rfl (opv_nilCheck rfl rfl ?_)
  refine ur_opw rfl rfl rfl rfl rfl (opv_fieldAddr0 rfl rfl rfl ?_)
  refine ur_opw rfl rfl rfl rfl rfl (opv_load1 (by first | exact .inl (Has.has H) | exact .inr (Has.has HR)) rfl rfl rfl ?_)
  refine ur_region_end ?_
  refine ur_cond rfl (fun hc1 => ?_) (fun hc1 => ?_)
  · -- yes
    try simp only [decide_eq_true_eq, decide_eq_false_iff_not, Bool.not_eq_true', Bool.not_eq_false', beq_iff_eq, bne_iff_ne, beq_eq_false_iff_ne, bne_eq_false_iff_eq, ne_eq, Decidable.not_not] at hc1
    refine ur_region rfl ?_
    refine ur_opw rfl rfl rfl rfl rfl (opv_move rfl rfl ?_)
    refine ur_opw rfl rfl rfl rfl rfl (opv_load1 (by first | exact .inl (Has.has H) | exact .inr (Has.has HR)) rfl rfl rfl ?_)
    refine ur_opw rfl rfl rfl rfl rfl (opv_nilCheck rfl rfl ?_)
    refine ur_opw0 rfl rfl rfl rfl (opv_storeI H rfl rfl rfl rfl rfl rfl hi fun h H => ?_)
    refine ur_region_end ?_
    exact ur_end0 G Tryz.func306 rfl ⟨rfl, by rw [ints_set] at H; simpa [hc1] using H.bring [1]⟩
  · -- no
    try simp only [decide_eq_true_eq, decide_eq_false_iff_not, Bool.not_eq_true', Bool.not_eq_false', beq_iff_eq, bne_iff_ne, beq_eq_false_iff_ne, bne_eq_false_iff_eq, ne_eq, Decidable.not_not] at hc1
    refine ur_skip ?_
    exact ur_end0 G Tryz.func306 rfl ⟨rfl, by simpa [hc1] using H.bring [1]⟩

theorem access {mb n i f : Nat} {ws ws' : List Int} {k A B : Int} {ok : Bool} {cs : List Value} (hb : HasBody Tryz.prog f) (hi : i < ws.length) (hn : n < 2 ^ 30) (hl : ws'.length = ws.length)
    (hdo : ∀ F' h1 wb ab, Hp.le F F' → Own [pt wb (.cells (ints ws).toArray 3 (0, 0)), pt ab (.cells (acc k i 0 0 false).toArray 197 (0, 0))] h1 → CallS Tryz.prog F' f (([] ++ [Value.pointer (some ⟨wb, i, none⟩), .pointer (some ⟨ab, 0, none⟩)]) ++ cs).toArray h1 fun v h' => v = .tuple #[] ∧ Own [pt wb (.cells (ints ws').toArray 3 (0, 0)), pt ab (.cells (acc k i A B ok).toArray 197 (0, 0))] h')
    (H : Own [MemR mb ws n] h) : CallS Tryz.prog F 304 [.pointer (some ⟨mb, 0, none⟩), .int .i64 k, .int .i64 i, .func (.func f) #[] cs.toArray].toArray h fun v h' => v = .agg (acc k i A B ok).toArray ∧ Own [MemR mb ws' (n + 1)] h' := by
  refine callS_intro Tryz.func304 rfl rfl rfl fun C G => ?_
  obtain ⟨wb, la, lc, lcs, hol, H⟩ := MemR.open H
  have hil : i < (ints ws).length := by simpa using hi
  repeat refine ur_seq ?_
  refine ur_region rfl ?_
  refine ur_opw rfl rfl rfl rfl rfl (opv_alloc H rfl fun b1 h hb1 H => ?_)
  refine ur_region_end ?_
  repeat refine ur_seq ?_
  refine ur_region rfl ?_
  refine ur_opw rfl rfl rfl rfl rfl (opv_move rfl rfl ?_)
  refine ur_opw rfl rfl rfl rfl rfl (opv_move rfl rfl ?_)
  refine ur_opw rfl rfl rfl rfl rfl (opv_build rfl rfl ?_)
  refine ur_opw rfl rfl rfl rfl rfl (opv_alloc H rfl fun b2 h hb2 H => ?_)
  refine ur_opw0 rfl rfl rfl rfl (opv_store H rfl rfl rfl rfl rfl rfl rfl fun h H => ?_)
  refine ur_region_end ?_
  repeat refine ur_seq ?_
  refine ur_region rfl ?_
  refine ur_opw rfl rfl rfl rfl rfl (opv_move rfl rfl ?_)
  refine ur_opw rfl rfl rfl rfl rfl (opv_move rfl rfl ?_)
  refine ur_opw rfl rfl rfl rfl rfl (opv_nilCheck rfl rfl ?_)
  refine ur_opw rfl rfl rfl rfl rfl (opv_fieldAddr0 rfl rfl rfl ?_)
  refine ur_opw rfl rfl rfl rfl rfl (opv_load1 (by first | exact .inl (Has.has H) | exact .inr (Has.has HR)) rfl rfl rfl ?_)
  refine ur_opw rfl rfl rfl rfl rfl (opv_move rfl rfl ?_)
  refine ur_opw rfl rfl rfl rfl rfl (opv_indexAt (r := i) rfl rfl rfl ⟨by omega, by simpa using hi⟩ (by simp) ?_)
  refine ur_opw rfl rfl rfl rfl rfl (opv_call rfl rfl rfl (opv_to [] [3, 0] H (fun F1 h1 hF1 HR1 H1 => hdo F1 h1 wb b2 hF1 H1) ?_))
  rintro v h1 h ⟨rfl, H1⟩ J
  have H := J H1
  refine ur_region_end ?_
  repeat refine ur_seq ?_
  refine ur_draw Tryz.mixed (by kernel_rfl) ?_
  refine ud_ro [1, 2] [0, 1, 2, 3, 4, 5, 6, 7] [0, 1, 2, 3, 4, 5] (by kernel_rfl) (by kernel_rfl) H fun F1 h hF1 HF H => ?_
  refine to_free rfl rfl rfl rfl rfl (fun _ _ hk => opv_move rfl rfl hk) ?_
  refine to_free rfl rfl rfl rfl rfl (fun _ _ hk => opv_move rfl rfl hk) ?_
  refine to_free rfl rfl rfl rfl rfl (fun _ _ hk => opv_nilCheck rfl rfl hk) ?_
  refine to_free rfl rfl rfl rfl rfl (fun _ _ hk => opv_fieldAddr0 rfl rfl rfl hk) ?_
  refine to_free rfl rfl rfl rfl rfl (fun _ _ hk => opv_load1 (by first | exact .inr (Has.has HF) | exact .inr (Has.has HR1) | exact .inr (Has.has (HR.mono hF1))) rfl rfl rfl hk) ?_
  refine to_free rfl rfl rfl rfl rfl (fun _ _ hk => opv_loadA (by first | exact .inr (Has.has HF) | exact .inr (Has.has HR1) | exact .inr (Has.has (HR.mono hF1))) rfl rfl hk) ?_
  refine to_eff rfl rfl rfl rfl rfl (opv_buildSlice H rfl rfl rfl rfl rfl fun b3 h hb3 H => ?_)
  refine to_eff rfl rfl rfl rfl rfl (opv_append H rfl rfl (by first | exact .inl (Has.has H) | exact .inr (Has.has HF) | exact .inr (Has.has (HR.mono hF1))) rfl rfl (by omega) (by omega) fun a4 a4c h H => ?_)
  refine to_end fun h J => ?_
  have H := J H
  refine ud_op 8 (by kernel_rfl) (by kernel_rfl) rfl rfl rfl rfl (opv_nilCheck rfl rfl ?_)
  refine ud_op 9 (by kernel_rfl) (by kernel_rfl) rfl rfl rfl rfl (opv_fieldAddr0 rfl rfl rfl ?_)
  refine ud_op0 10 (by kernel_rfl) (by kernel_rfl) rfl rfl rfl rfl (opv_store H rfl rfl rfl rfl rfl rfl rfl fun h H => ?_)
  refine ud_end (by kernel_rfl) ?_
  repeat refine ur_seq ?_
  refine ur_region rfl ?_
  refine ur_opw rfl rfl rfl rfl rfl (opv_loadA (by first | exact .inl (Has.has H) | exact .inr (Has.has HR)) rfl rfl ?_)
  refine ur_opw0 rfl rfl rfl rfl (opv_store H rfl rfl rfl rfl rfl rfl rfl fun h H => ?_)
  refine ur_region_end ?_
  refine ur_retA G H Tryz.func304 rfl rfl ⟨rfl, ?_⟩
  rw [← hl] at H
  exact (Own.fold [5, 2, 0] H fun h H => ⟨wb, _, _, lcs ++ acc k i A B ok, by rw [ones_append, hol]; rfl, by simpa using H⟩).keep [0]

theorem mload {mb n i : Nat} {ws : List Int} {x : Int}  (hx : ws[i]? = some x) (hn : n < 2 ^ 30) (H : Own [MemR mb ws n] h) :
    CallS Tryz.prog F 275 [.pointer (some ⟨mb, 0, none⟩), .int .i64 i].toArray h fun v h' => v = .int .i64 x ∧ Own [MemR mb ws (n + 1)] h' := by
  have hx' : ws = ws := rfl
  refine callS_intro Tryz.func275 rfl rfl rfl fun C G => ?_
  repeat refine ur_seq ?_
  refine ur_region rfl ?_
  refine ur_opw rfl rfl rfl rfl rfl (opv_assign rfl rfl ?_)
  refine ur_region_end ?_
  repeat refine ur_seq ?_
  refine ur_region rfl ?_
  refine ur_opw rfl rfl rfl rfl rfl (opv_move rfl rfl ?_)
  refine ur_opw rfl rfl rfl rfl rfl (opv_move rfl rfl ?_)
  refine ur_opw rfl rfl rfl rfl rfl (opv_call rfl rfl rfl (opv_to [] [0] H (fun F1 h1 hF1 HR1 H1 => access inferInstance (hx' ▸ (List.getElem?_eq_some_iff.1 hx).1) hn rfl (cs := []) (fun F2 h2 wb ab _ H2 => loadF hx H2) H1) ?_))
  rintro v h1 h ⟨rfl, H1⟩ J
  have H := J H1
  refine ur_opw rfl rfl rfl rfl rfl (opv_field1 rfl rfl rfl ?_)
  refine ur_opw rfl rfl rfl rfl rfl (opv_assign rfl rfl ?_)
  refine ur_region_end ?_
  exact ur_ret1 G Tryz.func275 rfl rfl ⟨rfl, H.keep [0]⟩

theorem mcas {mb n i : Nat} {ws : List Int} {x : Int} {u y : Int} (hx : ws[i]? = some x) (hn : n < 2 ^ 30) (H : Own [MemR mb ws n] h) :
    CallS Tryz.prog F 278 [.pointer (some ⟨mb, 0, none⟩), .int .i64 i, .int .i64 u, .int .i64 y].toArray h fun v h' => v = .bool (x == u) ∧ Own [MemR mb (if x = u then ws.set i y else ws) (n + 1)] h' := by
  have hx' : ws = ws := rfl
  refine callS_intro Tryz.func278 rfl rfl rfl fun C G => ?_
  repeat refine ur_seq ?_
  refine ur_region rfl ?_
  refine ur_opw rfl rfl rfl rfl rfl (opv_box H rfl rfl fun b1 h hb1 H => ?_)
  refine ur_opw rfl rfl rfl rfl rfl (opv_box H rfl rfl fun b2 h hb2 H => ?_)
  refine ur_opw rfl rfl rfl rfl rfl (opv_assign rfl rfl ?_)
  refine ur_region_end ?_
  repeat refine ur_seq ?_
  refine ur_region rfl ?_
  refine ur_opw rfl rfl rfl rfl rfl (opv_move rfl rfl ?_)
  refine ur_opw rfl rfl rfl rfl rfl (opv_move rfl rfl ?_)
  refine ur_opw rfl rfl rfl rfl rfl (opv_makeFunc rfl rfl rfl ?_)
  refine ur_opw rfl rfl rfl rfl rfl (opv_call rfl rfl rfl (opv_to [1, 0] [0] H (fun F1 h1 hF1 HR1 H1 => access inferInstance (hx' ▸ (List.getElem?_eq_some_iff.1 hx).1) hn (by split <;> simp) (cs := [_, _]) (fun F2 h2 wb ab hF2 H2 => casF hx (HR1.mono hF2) H2) H1) ?_))
  rintro v h1 h ⟨rfl, H1⟩ J
  have H := J H1
  refine ur_opw rfl rfl rfl rfl rfl (opv_field1 rfl rfl rfl ?_)
  refine ur_opw rfl rfl rfl rfl rfl (opv_assign rfl rfl ?_)
  refine ur_region_end ?_
  exact ur_ret1 G Tryz.func278 rfl rfl ⟨rfl, H.keep [0]⟩

theorem madd {mb n i : Nat} {ws : List Int} {x : Int} {d : Int} (hx : ws[i]? = some x) (hn : n < 2 ^ 30) (H : Own [MemR mb ws n] h) :
    CallS Tryz.prog F 285 [.pointer (some ⟨mb, 0, none⟩), .int .i64 i, .int .i64 d].toArray h fun v h' => v = .int .i64 (IntKind.i64.wrap (x + d)) ∧ Own [MemR mb (ws.set i (IntKind.i64.wrap (x + d))) (n + 1)] h' := by
  have hx' : ws = ws := rfl
  refine callS_intro Tryz.func285 rfl rfl rfl fun C G => ?_
  repeat refine ur_seq ?_
  refine ur_region rfl ?_
  refine ur_opw rfl rfl rfl rfl rfl (opv_box H rfl rfl fun b1 h hb1 H => ?_)
  refine ur_opw rfl rfl rfl rfl rfl (opv_assign rfl rfl ?_)
  refine ur_region_end ?_
  repeat refine ur_seq ?_
  refine ur_region rfl ?_
  refine ur_opw rfl rfl rfl rfl rfl (opv_move rfl rfl ?_)
  refine ur_opw rfl rfl rfl rfl rfl (opv_move rfl rfl ?_)
  refine ur_opw rfl rfl rfl rfl rfl (opv_makeFunc rfl rfl rfl ?_)
  refine ur_opw rfl rfl rfl rfl rfl (opv_call rfl rfl rfl (opv_to [0] [0] H (fun F1 h1 hF1 HR1 H1 => access inferInstance (hx' ▸ (List.getElem?_eq_some_iff.1 hx).1) hn (by simp) (cs := [_]) (fun F2 h2 wb ab hF2 H2 => addF hx (HR1.mono hF2) H2) H1) ?_))
  rintro v h1 h ⟨rfl, H1⟩ J
  have H := J H1
  refine ur_opw rfl rfl rfl rfl rfl (opv_field1 rfl rfl rfl ?_)
  refine ur_opw rfl rfl rfl rfl rfl (opv_assign rfl rfl ?_)
  refine ur_region_end ?_
  exact ur_ret1 G Tryz.func285 rfl rfl ⟨rfl, H.keep [0]⟩

theorem mstore {mb n i : Nat} {ws : List Int} {x : Int} {d : Int} (hx : ws[i]? = some x) (hn : n < 2 ^ 30) (H : Own [MemR mb ws n] h) :
    CallS Tryz.prog F 308 [.pointer (some ⟨mb, 0, none⟩), .int .i64 i, .int .i64 d].toArray h fun v h' => v = .tuple #[] ∧ Own [MemR mb (ws.set i d) (n + 1)] h' := by
  have hx' : ws = ws := rfl
  refine callS_intro Tryz.func308 rfl rfl rfl fun C G => ?_
  repeat refine ur_seq ?_
  refine ur_region rfl ?_
  refine ur_opw rfl rfl rfl rfl rfl (opv_box H rfl rfl fun b1 h hb1 H => ?_)
  refine ur_region_end ?_
  refine ur_region rfl ?_
  refine ur_opw rfl rfl rfl rfl rfl (opv_move rfl rfl ?_)
  refine ur_opw rfl rfl rfl rfl rfl (opv_move rfl rfl ?_)
  refine ur_opw rfl rfl rfl rfl rfl (opv_makeFunc rfl rfl rfl ?_)
  refine ur_opw rfl rfl rfl rfl rfl (opv_call rfl rfl rfl (opv_to [0] [0] H (fun F1 h1 hF1 HR1 H1 => access inferInstance (hx' ▸ (List.getElem?_eq_some_iff.1 hx).1) hn (by simp) (cs := [_]) (fun F2 h2 wb ab hF2 H2 => storeF hx (HR1.mono hF2) H2) H1) ?_))
  rintro v h1 h ⟨rfl, H1⟩ J
  have H := J H1
  refine ur_region_end ?_
  exact ur_end0 G Tryz.func308 rfl ⟨rfl, H.keep [0]⟩

theorem cloneInts {a : Option Addr} {n c : Nat} {xs : List Value} (R : RdSl F 1 a n xs) (h1 : ones xs = true) (hn : n < 2 ^ 30) :
    CallS Tryz.prog F 110 [.slice a n c].toArray h fun v h' => ∃ a' c', v = .slice a' n c' ∧ Own [SlR 3 1 a' n c' xs] h' := by
  refine callS_intro Tryz.func110 rfl rfl rfl fun C G => ?_
  repeat refine ur_seq ?_
  refine ur_region rfl ?_
  refine ur_opw rfl rfl rfl rfl rfl (opv_assign rfl rfl ?_)
  refine ur_region_end ?_
  repeat refine ur_seq ?_
  refine ur_region rfl ?_
  refine ur_opw rfl rfl rfl rfl rfl (opv_move rfl rfl ?_)
  refine ur_opw rfl rfl rfl rfl rfl (opv_eqNil rfl rfl ⟨_, Tryz.underlying22, rfl⟩ nilC_slice ?_)
  refine ur_region_end ?_
  repeat refine ur_seq ?_
  refine ur_cond rfl (fun hc1 => ?_) (fun hc1 => ?_)
  · -- yes
    try simp only [decide_eq_true_eq, decide_eq_false_iff_not, Bool.not_eq_true', Bool.not_eq_false', beq_iff_eq, bne_iff_ne, beq_eq_false_iff_ne, bne_eq_false_iff_eq, ne_eq, Decidable.not_not] at hc1
    repeat refine ur_seq ?_
    refine ur_region rfl ?_
    refine ur_opw rfl rfl rfl rfl rfl (opv_assign rfl rfl ?_)
    refine ur_region_end ?_
    have ha : a = none := by simpa using hc1
    subst ha
    obtain ⟨rfl, rfl⟩ := R.none
    exact ur_ret1 G Tryz.func110 rfl rfl ⟨none, 0, rfl, Own.addNil _ _ trivial⟩
  · -- no
    have H : Own [] h := trivial
    refine ur_skip ?_
    repeat refine ur_seq ?_
    refine ur_region rfl ?_
    refine ur_opw rfl rfl rfl rfl rfl (opv_emptySlice H rfl fun b2 h hb2 H => ?_)
    refine ur_opw rfl rfl rfl rfl rfl (opv_move rfl rfl ?_)
    refine ur_opw rfl rfl rfl rfl rfl (opv_appendS H rfl rfl (R _) h1 rfl (by omega) (by omega) fun a' c' h H => ?_)
    refine ur_opw rfl rfl rfl rfl rfl (opv_assign rfl rfl ?_)
    refine ur_region_end ?_
    exact ur_ret1 G Tryz.func110 rfl rfl ⟨a', c', by simp, by simpa using H.keep [0]⟩

theorem cloneLog {a : Option Addr} {n c : Nat} {xs : List Value} (R : RdSl F 5 a n xs) (h1 : ones xs = true) (hn : n < 2 ^ 30) :
    CallS Tryz.prog F 148 [.slice a n c].toArray h fun v h' => ∃ a' c', v = .slice a' n c' ∧ Own [SlR 197 5 a' n c' xs] h' := by
  refine callS_intro Tryz.func148 rfl rfl rfl fun C G => ?_
  repeat refine ur_seq ?_
  refine ur_region rfl ?_
  refine ur_opw rfl rfl rfl rfl rfl (opv_assign rfl rfl ?_)
  refine ur_region_end ?_
  repeat refine ur_seq ?_
  refine ur_region rfl ?_
  refine ur_opw rfl rfl rfl rfl rfl (opv_move rfl rfl ?_)
  refine ur_opw rfl rfl rfl rfl rfl (opv_eqNil rfl rfl ⟨_, Tryz.underlying59, rfl⟩ nilC_slice ?_)
  refine ur_region_end ?_
  repeat refine ur_seq ?_
  refine ur_cond rfl (fun hc1 => ?_) (fun hc1 => ?_)
  · -- yes
    try simp only [decide_eq_true_eq, decide_eq_false_iff_not, Bool.not_eq_true', Bool.not_eq_false', beq_iff_eq, bne_iff_ne, beq_eq_false_iff_ne, bne_eq_false_iff_eq, ne_eq, Decidable.not_not] at hc1
    repeat refine ur_seq ?_
    refine ur_region rfl ?_
    refine ur_opw rfl rfl rfl rfl rfl (opv_assign rfl rfl ?_)
    refine ur_region_end ?_
    have ha : a = none := by simpa using hc1
    subst ha
    obtain ⟨rfl, rfl⟩ := R.none
    exact ur_ret1 G Tryz.func148 rfl rfl ⟨none, 0, rfl, Own.addNil _ _ trivial⟩
  · -- no
    have H : Own [] h := trivial
    refine ur_skip ?_
    repeat refine ur_seq ?_
    refine ur_region rfl ?_
    refine ur_opw rfl rfl rfl rfl rfl (opv_emptySlice H rfl fun b2 h hb2 H => ?_)
    refine ur_opw rfl rfl rfl rfl rfl (opv_move rfl rfl ?_)
    refine ur_opw rfl rfl rfl rfl rfl (opv_appendS H rfl rfl (R _) h1 rfl (by omega) (by omega) fun a' c' h H => ?_)
    refine ur_opw rfl rfl rfl rfl rfl (opv_assign rfl rfl ?_)
    refine ur_region_end ?_
    exact ur_ret1 G Tryz.func148 rfl rfl ⟨a', c', by simp, by simpa using H.keep [0]⟩

theorem cloneCalls {a : Option Addr} {n c : Nat} {xs : List Value} (R : RdSl F 3 a n xs) (h1 : ones xs = true) (hn : n < 2 ^ 30) :
    CallS Tryz.prog F 101 [.slice a n c].toArray h fun v h' => ∃ a' c', v = .slice a' n c' ∧ Own [SlR 70 3 a' n c' xs] h' := by
  refine callS_intro Tryz.func101 rfl rfl rfl fun C G => ?_
  repeat refine ur_seq ?_
  refine ur_region rfl ?_
  refine ur_opw rfl rfl rfl rfl rfl (opv_assign rfl rfl ?_)
  refine ur_region_end ?_
  repeat refine ur_seq ?_
  refine ur_region rfl ?_
  refine ur_opw rfl rfl rfl rfl rfl (opv_move rfl rfl ?_)
  refine ur_opw rfl rfl rfl rfl rfl (opv_eqNil rfl rfl ⟨_, Tryz.underlying41, rfl⟩ nilC_slice ?_)
  refine ur_region_end ?_
  repeat refine ur_seq ?_
  refine ur_cond rfl (fun hc1 => ?_) (fun hc1 => ?_)
  · -- yes
    try simp only [decide_eq_true_eq, decide_eq_false_iff_not, Bool.not_eq_true', Bool.not_eq_false', beq_iff_eq, bne_iff_ne, beq_eq_false_iff_ne, bne_eq_false_iff_eq, ne_eq, Decidable.not_not] at hc1
    repeat refine ur_seq ?_
    refine ur_region rfl ?_
    refine ur_opw rfl rfl rfl rfl rfl (opv_assign rfl rfl ?_)
    refine ur_region_end ?_
    have ha : a = none := by simpa using hc1
    subst ha
    obtain ⟨rfl, rfl⟩ := R.none
    exact ur_ret1 G Tryz.func101 rfl rfl ⟨none, 0, rfl, Own.addNil _ _ trivial⟩
  · -- no
    have H : Own [] h := trivial
    refine ur_skip ?_
    repeat refine ur_seq ?_
    refine ur_region rfl ?_
    refine ur_opw rfl rfl rfl rfl rfl (opv_emptySlice H rfl fun b2 h hb2 H => ?_)
    refine ur_opw rfl rfl rfl rfl rfl (opv_move rfl rfl ?_)
    refine ur_opw rfl rfl rfl rfl rfl (opv_appendS H rfl rfl (R _) h1 rfl (by omega) (by omega) fun a' c' h H => ?_)
    refine ur_opw rfl rfl rfl rfl rfl (opv_assign rfl rfl ?_)
    refine ur_region_end ?_
    exact ur_ret1 G Tryz.func101 rfl rfl ⟨a', c', by simp, by simpa using H.keep [0]⟩

theorem cloneEvents {a : Option Addr} {n c : Nat} {xs : List Value} (R : RdSl F 10 a n xs) (h1 : ones xs = true) (hn : n < 2 ^ 30) :
    CallS Tryz.prog F 74 [.slice a n c].toArray h fun v h' => ∃ a' c', v = .slice a' n c' ∧ Own [SlR 75 10 a' n c' xs] h' := by
  refine callS_intro Tryz.func74 rfl rfl rfl fun C G => ?_
  repeat refine ur_seq ?_
  refine ur_region rfl ?_
  refine ur_opw rfl rfl rfl rfl rfl (opv_assign rfl rfl ?_)
  refine ur_region_end ?_
  repeat refine ur_seq ?_
  refine ur_region rfl ?_
  refine ur_opw rfl rfl rfl rfl rfl (opv_move rfl rfl ?_)
  refine ur_opw rfl rfl rfl rfl rfl (opv_eqNil rfl rfl ⟨_, Tryz.underlying45, rfl⟩ nilC_slice ?_)
  refine ur_region_end ?_
  repeat refine ur_seq ?_
  refine ur_cond rfl (fun hc1 => ?_) (fun hc1 => ?_)
  · -- yes
    try simp only [decide_eq_true_eq, decide_eq_false_iff_not, Bool.not_eq_true', Bool.not_eq_false', beq_iff_eq, bne_iff_ne, beq_eq_false_iff_ne, bne_eq_false_iff_eq, ne_eq, Decidable.not_not] at hc1
    repeat refine ur_seq ?_
    refine ur_region rfl ?_
    refine ur_opw rfl rfl rfl rfl rfl (opv_assign rfl rfl ?_)
    refine ur_region_end ?_
    have ha : a = none := by simpa using hc1
    subst ha
    obtain ⟨rfl, rfl⟩ := R.none
    exact ur_ret1 G Tryz.func74 rfl rfl ⟨none, 0, rfl, Own.addNil _ _ trivial⟩
  · -- no
    have H : Own [] h := trivial
    refine ur_skip ?_
    repeat refine ur_seq ?_
    refine ur_region rfl ?_
    refine ur_opw rfl rfl rfl rfl rfl (opv_emptySlice H rfl fun b2 h hb2 H => ?_)
    refine ur_opw rfl rfl rfl rfl rfl (opv_move rfl rfl ?_)
    refine ur_opw rfl rfl rfl rfl rfl (opv_appendS H rfl rfl (R _) h1 rfl (by omega) (by omega) fun a' c' h H => ?_)
    refine ur_opw rfl rfl rfl rfl rfl (opv_assign rfl rfl ?_)
    refine ur_region_end ?_
    exact ur_ret1 G Tryz.func74 rfl rfl ⟨a', c', by simp, by simpa using H.keep [0]⟩

theorem mnew {n : Nat} (hp : 0 < n) (hn : n < 2 ^ 30) : CallS Tryz.prog F 141 [.int .i64 n].toArray h fun v h' => ∃ mb, v = .pointer (some ⟨mb, 0, none⟩) ∧ Own [MemR mb (List.replicate n 0) 0] h' := by
  refine callS_intro Tryz.func141 rfl rfl rfl fun C G => ?_
  have H : Own [] h := trivial
  repeat refine ur_seq ?_
  refine ur_region rfl ?_
  refine ur_opw rfl rfl rfl rfl rfl (opv_assign rfl rfl ?_)
  refine ur_region_end ?_
  repeat refine ur_seq ?_
  refine ur_region rfl ?_
  refine ur_opw rfl rfl rfl rfl rfl (opv_move rfl rfl ?_)
  refine ur_opw rfl rfl rfl rfl rfl (opv_makeSlice H rfl rfl rfl rfl (by omega) (by omega) (by omega) rfl fun b1 h hb1 H => ?_)
  refine ur_opw rfl rfl rfl rfl rfl (opv_build rfl rfl ?_)
  refine ur_opw rfl rfl rfl rfl rfl (opv_box H rfl rfl fun b2 h hb2 H => ?_)
  refine ur_opw rfl rfl rfl rfl rfl (opv_assign rfl rfl ?_)
  refine ur_region_end ?_
  have hz : (List.replicate n [Value.int .i64 0]).flatten = ints (List.replicate n 0) := by simp [ints]
  rw [hz] at H
  exact ur_ret1 G Tryz.func141 rfl rfl ⟨b2, rfl, (Own.fold [0, 0, 0] (H.addNil 197 5 |>.bring [1, 1]) fun h H => ⟨b1, none, 0, [], rfl, by simpa using H⟩).keep [0]⟩

theorem mpoke {mb n i : Nat} {ws : List Int} {x : Int} (hi : i < ws.length) (H : Own [MemR mb ws n] h) : CallS Tryz.prog F 144 [.pointer (some ⟨mb, 0, none⟩), .int .i64 i, .int .i64 x].toArray h fun v h' => v = .tuple #[] ∧ Own [MemR mb (ws.set i x) n] h' := by
  refine callS_intro Tryz.func144 rfl rfl rfl fun C G => ?_
  obtain ⟨wb, la, lc, lcs, hol, H⟩ := MemR.open H
  have hil : i < (ints ws).length := by simpa using hi
  refine ur_region rfl ?_
  refine ur_opw rfl rfl rfl rfl rfl (opv_move rfl rfl ?_)
  refine ur_opw rfl rfl rfl rfl rfl (opv_nilCheck rfl rfl ?_)
  refine ur_opw rfl rfl rfl rfl rfl (opv_fieldAddr0 rfl rfl rfl ?_)
  refine ur_opw rfl rfl rfl rfl rfl (opv_load1 (by first | exact .inl (Has.has H) | exact .inr (Has.has HR)) rfl rfl rfl ?_)
  refine ur_opw rfl rfl rfl rfl rfl (opv_move rfl rfl ?_)
  refine ur_opw rfl rfl rfl rfl rfl (opv_move rfl rfl ?_)
  refine ur_opw rfl rfl rfl rfl rfl (opv_indexAt (r := i) rfl rfl rfl ⟨by omega, by simpa using hi⟩ (by simp) ?_)
  refine ur_opw0 rfl rfl rfl rfl (opv_storeI H rfl rfl rfl rfl rfl rfl hil fun h H => ?_)
  refine ur_region_end ?_
  rw [ints_set] at H
  have hl : ws.length = (ws.set i x).length := by simp
  rw [hl] at H
  exact ur_end0 G Tryz.func144 rfl ⟨rfl, (Own.fold [0, 0, 0] H fun h H => ⟨wb, _, _, _, hol, by simpa using H⟩).keep [0]⟩

theorem mwords {mb n : Nat} {ws : List Int} (hn : ws.length < 2 ^ 30) (H : Own [MemR mb ws n] h) : CallS Tryz.prog F 77 [.pointer (some ⟨mb, 0, none⟩)].toArray h fun v h' => ∃ a' c', v = .slice a' ws.length c' ∧ Own [SlR 3 1 a' ws.length c' (ints ws), MemR mb ws n] h' := by
  refine callS_intro Tryz.func77 rfl rfl rfl fun C G => ?_
  obtain ⟨wb, la, lc, lcs, hol, H⟩ := MemR.open H
  repeat refine ur_seq ?_
  refine ur_region rfl ?_
  refine ur_opw rfl rfl rfl rfl rfl (opv_assign rfl rfl ?_)
  refine ur_region_end ?_
  repeat refine ur_seq ?_
  refine ur_region rfl ?_
  refine ur_opw rfl rfl rfl rfl rfl (opv_move rfl rfl ?_)
  refine ur_opw rfl rfl rfl rfl rfl (opv_nilCheck rfl rfl ?_)
  refine ur_opw rfl rfl rfl rfl rfl (opv_fieldAddr0 rfl rfl rfl ?_)
  refine ur_opw rfl rfl rfl rfl rfl (opv_load1 (by first | exact .inl (Has.has H) | exact .inr (Has.has HR)) rfl rfl rfl ?_)
  refine ur_opw rfl rfl rfl rfl rfl (opv_call rfl rfl rfl (opv_to [1] [] H (fun F1 h1 hF1 HR1 H1 => cloneInts (RdSl.ofPt (Has.has HR1) (by simp)) (ones_ints _) hn) ?_))
  rintro v h1 h ⟨a', c', rfl, H1⟩ J
  have H := J H1
  refine ur_opw rfl rfl rfl rfl rfl (opv_assign rfl rfl ?_)
  refine ur_region_end ?_
  exact ur_ret1 G Tryz.func77 rfl rfl ⟨a', c', rfl, (Own.fold [2, 1, 1] H fun h H => ⟨wb, _, _, _, hol, by simpa using H⟩).keep [1, 0]⟩

theorem mlog {mb n : Nat} {ws : List Int} (hn : n < 2 ^ 30) (H : Own [MemR mb ws n] h) : CallS Tryz.prog F 104 [.pointer (some ⟨mb, 0, none⟩)].toArray h fun v h' => ∃ a' c' lcs, v = .slice a' n c' ∧ Own [SlR 197 5 a' n c' lcs, MemR mb ws n] h' := by
  refine callS_intro Tryz.func104 rfl rfl rfl fun C G => ?_
  obtain ⟨wb, la, lc, lcs, hol, H⟩ := MemR.open H
  repeat refine ur_seq ?_
  refine ur_region rfl ?_
  refine ur_opw rfl rfl rfl rfl rfl (opv_assign rfl rfl ?_)
  refine ur_region_end ?_
  repeat refine ur_seq ?_
  refine ur_region rfl ?_
  refine ur_opw rfl rfl rfl rfl rfl (opv_move rfl rfl ?_)
  refine ur_opw rfl rfl rfl rfl rfl (opv_nilCheck rfl rfl ?_)
  refine ur_opw rfl rfl rfl rfl rfl (opv_fieldAddr0 rfl rfl rfl ?_)
  refine ur_opw rfl rfl rfl rfl rfl (opv_load1 (by first | exact .inl (Has.has H) | exact .inr (Has.has HR)) rfl rfl rfl ?_)
  refine ur_opw rfl rfl rfl rfl rfl (opv_call rfl rfl rfl (opv_to [2] [] H (fun F1 h1 hF1 HR1 H1 => cloneLog (RdSl.ofSl HR1) hol hn) ?_))
  rintro v h1 h ⟨a', c', rfl, H1⟩ J
  have H := J H1
  refine ur_opw rfl rfl rfl rfl rfl (opv_assign rfl rfl ?_)
  refine ur_region_end ?_
  exact ur_ret1 G Tryz.func104 rfl rfl ⟨a', c', lcs, rfl, (Own.fold [2, 2, 1] H fun h H => ⟨wb, _, _, _, hol, by simpa using H⟩).keep [1, 0]⟩
end Go.Proofs
