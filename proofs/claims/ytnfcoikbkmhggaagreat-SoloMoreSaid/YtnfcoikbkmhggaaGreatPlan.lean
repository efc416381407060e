/- Package plan: contracts. -/
import Derived.Test.YtnfcoikbkmhggaaGreatPure
import Derived.Test.YtnfcoikbkmhggaaGreatMem
set_option linter.all false
set_option linter.unusedVariables false
set_option linter.unusedSimpArgs false
namespace Go.Proofs
open Go.BL
variable {F h : Hp} {c : Cf} {A : CA}

theorem plan_each (o : c.Ok) : CallS Tryz.prog F 216 [(.agg (cfv c A).toArray)].toArray h fun v h' => v = .int .i64 c.each ∧ Own [] h' := by
  have H : Own [] h := trivial
  refine callS_intro Tryz.func216 rfl rfl rfl fun C G => ?_
  have h1 := o.each; unfold Cf.each at h1
  repeat refine ur_seq ?_
  refine ur_region rfl ?_
  refine ur_opw rfl rfl rfl rfl rfl (opv_box H rfl rfl fun b1 h hb1 H => ?_)
  refine ur_opw rfl rfl rfl rfl rfl (opv_assign rfl rfl ?_)
  refine ur_region_end ?_
  repeat refine ur_seq ?_
  refine ur_region rfl ?_
  refine ur_opw rfl rfl rfl rfl rfl (opv_fieldAddr0 rfl rfl rfl ?_)
  refine ur_opw rfl rfl rfl rfl rfl (opv_fieldAddr0 rfl rfl rfl ?_)
  refine ur_opw rfl rfl rfl rfl rfl (opv_load1 (by first | exact .inl (Has.has H) | exact .inr (Has.has HR)) rfl rfl rfl ?_)
  refine ur_opw rfl rfl rfl rfl rfl (opv_arith rfl rfl rfl rfl (by first | exact wi (by omega) | rfl) ?_)
  refine ur_opw rfl rfl rfl rfl rfl (opv_arith rfl rfl rfl rfl (by first | exact wi (by omega) | rfl) ?_)
  refine ur_opw rfl rfl rfl rfl rfl (opv_assign rfl rfl ?_)
  refine ur_region_end ?_
  exact ur_ret1 G Tryz.func216 rfl rfl ⟨rfl, trivial⟩

theorem plan_node (o : c.Ok) {x : Int} (h0 : 0 ≤ x) (hv : x ≤ 12) : CallS Tryz.prog F 151 [(.agg (cfv c A).toArray), .int .i64 x].toArray h fun v h' => v = .int .i64 (c.limitAt x) ∧ Own [] h' := by
  have H : Own [] h := trivial
  refine callS_intro Tryz.func151 rfl rfl rfl fun C G => ?_
  have h1 := o.limitAt h0 hv; unfold Cf.limitAt at h1
  repeat refine ur_seq ?_
  refine ur_region rfl ?_
  refine ur_opw rfl rfl rfl rfl rfl (opv_box H rfl rfl fun b1 h hb1 H => ?_)
  refine ur_opw rfl rfl rfl rfl rfl (opv_assign rfl rfl ?_)
  refine ur_region_end ?_
  repeat refine ur_seq ?_
  refine ur_region rfl ?_
  refine ur_opw rfl rfl rfl rfl rfl (opv_move rfl rfl ?_)
  refine ur_opw rfl rfl rfl rfl rfl (opv_loadA (by first | exact .inl (Has.has H) | exact .inr (Has.has HR)) rfl rfl ?_)
  refine ur_opw rfl rfl rfl rfl rfl (opv_call rfl rfl rfl (opv_to [] [] H (fun F1 h1 hF HR1 H1 => plan_each o) ?_))
  rintro v h1 h ⟨rfl, H1⟩ J
  have H := J H1
  refine ur_opw rfl rfl rfl rfl rfl (opv_arith rfl rfl rfl rfl (by first | exact wi (by omega) | rfl) ?_)
  refine ur_opw rfl rfl rfl rfl rfl (opv_assign rfl rfl ?_)
  refine ur_region_end ?_
  exact ur_ret1 G Tryz.func151 rfl rfl ⟨rfl, trivial⟩

theorem plan_limit (o : c.Ok) {x : Int} (h0 : 0 ≤ x) (hv : x ≤ 12) : CallS Tryz.prog F 114 [(.agg (cfv c A).toArray), .int .i64 x].toArray h fun v h' => v = .int .i64 (c.limitAt x) ∧ Own [] h' := by
  have H : Own [] h := trivial
  refine callS_intro Tryz.func114 rfl rfl rfl fun C G => ?_
  repeat refine ur_seq ?_
  refine ur_region rfl ?_
  refine ur_opw rfl rfl rfl rfl rfl (opv_box H rfl rfl fun b1 h hb1 H => ?_)
  refine ur_opw rfl rfl rfl rfl rfl (opv_assign rfl rfl ?_)
  refine ur_region_end ?_
  repeat refine ur_seq ?_
  refine ur_region rfl ?_
  refine ur_opw rfl rfl rfl rfl rfl (opv_loadA (by first | exact .inl (Has.has H) | exact .inr (Has.has HR)) rfl rfl ?_)
  refine ur_opw rfl rfl rfl rfl rfl (opv_build rfl rfl ?_)
  refine ur_opw rfl rfl rfl rfl rfl (opv_move rfl rfl ?_)
  refine ur_opw rfl rfl rfl rfl rfl (opv_call rfl rfl rfl (opv_to [] [] H (fun F1 h1 hF HR1 H1 => plan_node o h0 hv) ?_))
  rintro v h1 h ⟨rfl, H1⟩ J
  have H := J H1
  refine ur_opw rfl rfl rfl rfl rfl (opv_assign rfl rfl ?_)
  refine ur_region_end ?_
  exact ur_ret1 G Tryz.func114 rfl rfl ⟨rfl, trivial⟩

theorem plan_avail (o : c.Ok) {x : Int} (h0 : 0 ≤ x) (hv : x ≤ 12) : CallS Tryz.prog F 145 [(.agg (cfv c A).toArray), .int .i64 x].toArray h fun v h' => v = .int .i64 (c.availAt x) ∧ Own [] h' := by
  have H : Own [] h := trivial
  refine callS_intro Tryz.func145 rfl rfl rfl fun C G => ?_
  have h1 := o.limitAt h0 hv
  repeat refine ur_seq ?_
  refine ur_region rfl ?_
  refine ur_opw rfl rfl rfl rfl rfl (opv_box H rfl rfl fun b1 h hb1 H => ?_)
  refine ur_opw rfl rfl rfl rfl rfl (opv_assign rfl rfl ?_)
  refine ur_region_end ?_
  repeat refine ur_seq ?_
  refine ur_region rfl ?_
  refine ur_opw rfl rfl rfl rfl rfl (opv_loadA (by first | exact .inl (Has.has H) | exact .inr (Has.has HR)) rfl rfl ?_)
  refine ur_opw rfl rfl rfl rfl rfl (opv_move rfl rfl ?_)
  refine ur_opw rfl rfl rfl rfl rfl (opv_call rfl rfl rfl (opv_to [] [] H (fun F1 h1 hF HR1 H1 => plan_limit o h0 hv) ?_))
  rintro v h1 h ⟨rfl, H1⟩ J
  have H := J H1
  refine ur_opw rfl rfl rfl rfl rfl (opv_arith rfl rfl rfl rfl (by first | exact wi (by omega) | rfl) ?_)
  refine ur_opw rfl rfl rfl rfl rfl (opv_assign rfl rfl ?_)
  refine ur_region_end ?_
  exact ur_ret1 G Tryz.func145 rfl rfl ⟨rfl, trivial⟩

theorem plan_lease (o : c.Ok) {x s : Int} (h0 : 0 ≤ x) (hv : x ≤ 12) (hs : 0 ≤ s ∧ s ≤ 8) : CallS Tryz.prog F 195 [(.agg (cfv c A).toArray), .int .i64 x, .int .i64 s].toArray h fun v h' => v = .int .i64 (c.leaseAt x s) ∧ Own [] h' := by
  have H : Own [] h := trivial
  refine callS_intro Tryz.func195 rfl rfl rfl fun C G => ?_
  have h1 := o.limitAt h0 hv
  repeat refine ur_seq ?_
  refine ur_region rfl ?_
  refine ur_opw rfl rfl rfl rfl rfl (opv_box H rfl rfl fun b1 h hb1 H => ?_)
  refine ur_opw rfl rfl rfl rfl rfl (opv_assign rfl rfl ?_)
  refine ur_region_end ?_
  repeat refine ur_seq ?_
  refine ur_region rfl ?_
  refine ur_opw rfl rfl rfl rfl rfl (opv_loadA (by first | exact .inl (Has.has H) | exact .inr (Has.has HR)) rfl rfl ?_)
  refine ur_opw rfl rfl rfl rfl rfl (opv_move rfl rfl ?_)
  refine ur_opw rfl rfl rfl rfl rfl (opv_call rfl rfl rfl (opv_to [] [] H (fun F1 h1 hF HR1 H1 => plan_limit o h0 hv) ?_))
  rintro v h1 h ⟨rfl, H1⟩ J
  have H := J H1
  refine ur_opw rfl rfl rfl rfl rfl (opv_arith rfl rfl rfl rfl (by first | exact wi (by omega) | rfl) ?_)
  refine ur_opw rfl rfl rfl rfl rfl (opv_move rfl rfl ?_)
  refine ur_opw rfl rfl rfl rfl rfl (opv_arith rfl rfl rfl rfl (by first | exact wi (by omega) | rfl) ?_)
  refine ur_opw rfl rfl rfl rfl rfl (opv_assign rfl rfl ?_)
  refine ur_region_end ?_
  exact ur_ret1 G Tryz.func195 rfl rfl ⟨rfl, trivial⟩

theorem plan_counter (o : c.Ok) {x : Int} (h0 : 0 ≤ x) (hv : x ≤ 12) : CallS Tryz.prog F 146 [(.agg (cfv c A).toArray), .int .i64 x].toArray h fun v h' => v = .int .i64 (c.counterAt x) ∧ Own [] h' := by
  have H : Own [] h := trivial
  refine callS_intro Tryz.func146 rfl rfl rfl fun C G => ?_
  have h1 := o.stripes
  repeat refine ur_seq ?_
  refine ur_region rfl ?_
  refine ur_opw rfl rfl rfl rfl rfl (opv_box H rfl rfl fun b1 h hb1 H => ?_)
  refine ur_opw rfl rfl rfl rfl rfl (opv_assign rfl rfl ?_)
  refine ur_region_end ?_
  repeat refine ur_seq ?_
  refine ur_region rfl ?_
  refine ur_opw rfl rfl rfl rfl rfl (opv_loadA (by first | exact .inl (Has.has H) | exact .inr (Has.has HR)) rfl rfl ?_)
  refine ur_opw rfl rfl rfl rfl rfl (opv_move rfl rfl ?_)
  refine ur_opw rfl rfl rfl rfl rfl (opv_fieldAddr0 rfl rfl rfl ?_)
  refine ur_opw rfl rfl rfl rfl rfl (opv_load1 (by first | exact .inl (Has.has H) | exact .inr (Has.has HR)) rfl rfl rfl ?_)
  refine ur_opw rfl rfl rfl rfl rfl (opv_call rfl rfl rfl (opv_to [] [] H (fun F1 h1 hF HR1 H1 => plan_lease o h0 hv (by omega)) ?_))
  rintro v h1 h ⟨rfl, H1⟩ J
  have H := J H1
  refine ur_opw rfl rfl rfl rfl rfl (opv_assign rfl rfl ?_)
  refine ur_region_end ?_
  exact ur_ret1 G Tryz.func146 rfl rfl ⟨rfl, trivial⟩

theorem plan_ticket (o : c.Ok) {x : Int} (hx : 0 ≤ x ∧ x ≤ 16) : CallS Tryz.prog F 194 [(.agg (cfv c A).toArray), .int .i64 x].toArray h fun v h' => v = .int .i64 (c.ticketAt x) ∧ Own [] h' := by
  have H : Own [] h := trivial
  refine callS_intro Tryz.func194 rfl rfl rfl fun C G => ?_
  have h1 := o.nodes
  have h2 := o.limitAt (v := c.parents.length) (by omega) (by omega)
  repeat refine ur_seq ?_
  refine ur_region rfl ?_
  refine ur_opw rfl rfl rfl rfl rfl (opv_box H rfl rfl fun b1 h hb1 H => ?_)
  refine ur_opw rfl rfl rfl rfl rfl (opv_assign rfl rfl ?_)
  refine ur_region_end ?_
  repeat refine ur_seq ?_
  refine ur_region rfl ?_
  refine ur_opw rfl rfl rfl rfl rfl (opv_loadA (by first | exact .inl (Has.has H) | exact .inr (Has.has HR)) rfl rfl ?_)
  refine ur_opw rfl rfl rfl rfl rfl (opv_build rfl rfl ?_)
  refine ur_opw rfl rfl rfl rfl rfl (opv_alloc H rfl fun b2 h hb2 H => ?_)
  refine ur_opw0 rfl rfl rfl rfl (opv_store H rfl rfl rfl rfl rfl rfl rfl fun h H => ?_)
  refine ur_region_end ?_
  repeat refine ur_seq ?_
  refine ur_region rfl ?_
  refine ur_opw rfl rfl rfl rfl rfl (opv_loadA (by first | exact .inl (Has.has H) | exact .inr (Has.has HR)) rfl rfl ?_)
  refine ur_opw rfl rfl rfl rfl rfl (opv_fieldAddr0 rfl rfl rfl ?_)
  refine ur_opw rfl rfl rfl rfl rfl (opv_fieldAddr0 rfl rfl rfl ?_)
  refine ur_opw rfl rfl rfl rfl rfl (opv_load1 (by first | exact .inl (Has.has H) | exact .inr (Has.has HR)) rfl rfl rfl ?_)
  refine ur_opw rfl rfl rfl rfl rfl (opv_len rfl rfl ?_)
  refine ur_opw rfl rfl rfl rfl rfl (opv_call rfl rfl rfl (opv_to [] [] H (fun F1 h1 hF HR1 H1 => plan_node o (by omega) (by omega)) ?_))
  rintro v h1 h ⟨rfl, H1⟩ J
  have H := J H1
  refine ur_opw rfl rfl rfl rfl rfl (opv_move rfl rfl ?_)
  refine ur_opw rfl rfl rfl rfl rfl (opv_arith rfl rfl rfl rfl (by first | exact wi (by omega) | rfl) ?_)
  refine ur_opw rfl rfl rfl rfl rfl (opv_arith rfl rfl rfl rfl (by first | exact wi (by omega) | rfl) ?_)
  refine ur_opw rfl rfl rfl rfl rfl (opv_assign rfl rfl ?_)
  refine ur_region_end ?_
  exact ur_ret1 G Tryz.func194 rfl rfl ⟨rfl, trivial⟩

theorem plan_size (o : c.Ok) : CallS Tryz.prog F 142 [(.agg (cfv c A).toArray)].toArray h fun v h' => v = .int .i64 c.size ∧ Own [] h' := by
  have H : Own [] h := trivial
  refine callS_intro Tryz.func142 rfl rfl rfl fun C G => ?_
  have h1 := o.tickets
  repeat refine ur_seq ?_
  refine ur_region rfl ?_
  refine ur_opw rfl rfl rfl rfl rfl (opv_box H rfl rfl fun b1 h hb1 H => ?_)
  refine ur_opw rfl rfl rfl rfl rfl (opv_assign rfl rfl ?_)
  refine ur_region_end ?_
  repeat refine ur_seq ?_
  refine ur_region rfl ?_
  refine ur_opw rfl rfl rfl rfl rfl (opv_loadA (by first | exact .inl (Has.has H) | exact .inr (Has.has HR)) rfl rfl ?_)
  refine ur_opw rfl rfl rfl rfl rfl (opv_fieldAddr0 rfl rfl rfl ?_)
  refine ur_opw rfl rfl rfl rfl rfl (opv_load1 (by first | exact .inl (Has.has H) | exact .inr (Has.has HR)) rfl rfl rfl ?_)
  refine ur_opw rfl rfl rfl rfl rfl (opv_call rfl rfl rfl (opv_to [] [] H (fun F1 h1 hF HR1 H1 => plan_ticket o (by omega)) ?_))
  rintro v h1 h ⟨rfl, H1⟩ J
  have H := J H1
  refine ur_opw rfl rfl rfl rfl rfl (opv_assign rfl rfl ?_)
  refine ur_region_end ?_
  exact ur_ret1 G Tryz.func142 rfl rfl ⟨rfl, trivial⟩

theorem plan_lay {mb xb cb i : Nat} {ws : List Int} (o : c.Ok) (R : RdC F c A) (hi : i < c.parents.length) (hw : ws.length = c.size.toNat) (HR : Own [pt xb (.cells [.pointer (some ⟨mb, 0, none⟩)].toArray 89 (0, 0)), pt cb (.cells (cfv c A).toArray 24 (0, 0))] F) (H : Own [MemR mb ws 0] h) :
    CallS Tryz.prog F 143 [.int .i64 i, .pointer (some ⟨xb, 0, none⟩), .pointer (some ⟨cb, 0, none⟩)].toArray h fun v h' => v = .tuple #[] ∧ Own [MemR mb (c.layW ws i) 0] h' := by
  refine callS_intro Tryz.func143 rfl rfl rfl fun C G => ?_
  have hn := o.nodes
  have hs := o.stripes
  obtain ⟨hz0, hz1, hz2, hz3⟩ := o.node_lt (v := i) (by omega) (by omega)
  have hsz := o.size
  obtain ⟨L, hL⟩ : ∃ L, c.limits[i]? = some L := ⟨_, List.getElem?_eq_getElem (by have := o.limlen; omega)⟩
  have hLd : c.limits.getD i 0 = L := by simp [List.getD_eq_getElem?_getD, hL]
  have hlw : (c.limitAt i).toNat < ws.length := by omega
  have hla : (c.availAt i).toNat < ws.length := by unfold Cf.availAt; omega
  have hlc : (c.counterAt i + 3).toNat < ws.length := by unfold Cf.counterAt Cf.leaseAt; omega
  obtain ⟨lb, off, cs, T, fr, ea, hb, hv⟩ := R.l.at hL
  repeat refine ur_seq ?_
  refine ur_draw Tryz.mixed (by kernel_rfl) ?_
  refine ud_ro [] [0, 1, 2, 4, 5, 6, 7, 8, 3] [0, 1, 2, 4, 5, 6, 7, 8] (by kernel_rfl) (by kernel_rfl) H fun F1 h hF1 HF H => ?_
  refine to_free rfl rfl rfl rfl rfl (fun _ _ hk => opv_load1 (by first | exact .inr (Has.has HF) | exact .inr (Has.has HR1) | exact .inr (Has.has (HR.mono hF1))) rfl rfl rfl hk) ?_
  refine to_free rfl rfl rfl rfl rfl (fun _ _ hk => opv_loadA (by first | exact .inr (Has.has HF) | exact .inr (Has.has HR1) | exact .inr (Has.has (HR.mono hF1))) rfl rfl hk) ?_
  refine to_free rfl rfl rfl rfl rfl (fun _ _ hk => opv_move rfl rfl hk) ?_
  refine to_free rfl rfl rfl rfl rfl (fun _ _ hk => opv_fieldAddr0 rfl rfl rfl hk) ?_
  refine to_free rfl rfl rfl rfl rfl (fun _ _ hk => opv_load1 (by first | exact .inr (Has.has HF) | exact .inr (Has.has HR1) | exact .inr (Has.has (HR.mono hF1))) rfl rfl (show (cfv c A)[7]? = some (.slice (some ⟨lb, off, none⟩) c.limits.length A.lc) from by simp [cfv, ea]) hk) ?_
  refine to_free rfl rfl rfl rfl rfl (fun _ _ hk => opv_move rfl rfl hk) ?_
  refine to_free rfl rfl rfl rfl rfl (fun _ _ hk => opv_indexAt (r := off + i) rfl rfl rfl ⟨by omega, by have := o.limlen; omega⟩ (by simp) hk) ?_
  refine to_free rfl rfl rfl rfl rfl (fun _ _ hk => opv_load1 (.inr (hF1 _ _ hb)) rfl rfl hv hk) ?_
  refine to_eff rfl rfl rfl rfl rfl (opv_call rfl rfl rfl (opv_to [] [] H (fun F2 h1 hF2 HR1 H1 => have hF := Hp.le_trans hF1 hF2; plan_limit o (by omega) (by omega)) ?_))
  rintro v h1 h ⟨rfl, H1⟩ J
  have H := J H1
  refine to_end fun h J => ?_
  have H := J H
  refine ud_op 9 (by kernel_rfl) (by kernel_rfl) rfl rfl rfl rfl (opv_call rfl rfl rfl (opv_to [] [0] H (fun F1 h1 hF HR1 H1 => have e := Int.toNat_of_nonneg (show 0 ≤ c.limitAt i by omega); e ▸ mpoke hlw H1) ?_))
  rintro v h1 h ⟨rfl, H1⟩ J
  have H := J H1
  refine ud_end (by kernel_rfl) ?_
  repeat refine ur_seq ?_
  refine ur_draw Tryz.mixed (by kernel_rfl) ?_
  refine ud_ro [] [0, 1, 2, 4, 5, 6, 7, 8, 3] [0, 1, 2, 4, 5, 6, 7, 8] (by kernel_rfl) (by kernel_rfl) H fun F1 h hF1 HF H => ?_
  refine to_free rfl rfl rfl rfl rfl (fun _ _ hk => opv_load1 (by first | exact .inr (Has.has HF) | exact .inr (Has.has HR1) | exact .inr (Has.has (HR.mono hF1))) rfl rfl rfl hk) ?_
  refine to_free rfl rfl rfl rfl rfl (fun _ _ hk => opv_loadA (by first | exact .inr (Has.has HF) | exact .inr (Has.has HR1) | exact .inr (Has.has (HR.mono hF1))) rfl rfl hk) ?_
  refine to_free rfl rfl rfl rfl rfl (fun _ _ hk => opv_move rfl rfl hk) ?_
  refine to_free rfl rfl rfl rfl rfl (fun _ _ hk => opv_fieldAddr0 rfl rfl rfl hk) ?_
  refine to_free rfl rfl rfl rfl rfl (fun _ _ hk => opv_load1 (by first | exact .inr (Has.has HF) | exact .inr (Has.has HR1) | exact .inr (Has.has (HR.mono hF1))) rfl rfl (show (cfv c A)[7]? = some (.slice (some ⟨lb, off, none⟩) c.limits.length A.lc) from by simp [cfv, ea]) hk) ?_
  refine to_free rfl rfl rfl rfl rfl (fun _ _ hk => opv_move rfl rfl hk) ?_
  refine to_free rfl rfl rfl rfl rfl (fun _ _ hk => opv_indexAt (r := off + i) rfl rfl rfl ⟨by omega, by have := o.limlen; omega⟩ (by simp) hk) ?_
  refine to_free rfl rfl rfl rfl rfl (fun _ _ hk => opv_load1 (.inr (hF1 _ _ hb)) rfl rfl hv hk) ?_
  refine to_eff rfl rfl rfl rfl rfl (opv_call rfl rfl rfl (opv_to [] [] H (fun F2 h1 hF2 HR1 H1 => have hF := Hp.le_trans hF1 hF2; plan_avail o (by omega) (by omega)) ?_))
  rintro v h1 h ⟨rfl, H1⟩ J
  have H := J H1
  refine to_end fun h J => ?_
  have H := J H
  refine ud_op 9 (by kernel_rfl) (by kernel_rfl) rfl rfl rfl rfl (opv_call rfl rfl rfl (opv_to [] [0] H (fun F1 h1 hF HR1 H1 => have e := Int.toNat_of_nonneg (show 0 ≤ c.availAt i by unfold Cf.availAt; omega); e ▸ mpoke (by simpa using hla) H1) ?_))
  rintro v h1 h ⟨rfl, H1⟩ J
  have H := J H1
  refine ud_end (by kernel_rfl) ?_
  refine ur_draw Tryz.mixed (by kernel_rfl) ?_
  have hcb : 0 ≤ c.counterAt i ∧ c.counterAt i ≤ 300 := by unfold Cf.counterAt Cf.leaseAt; omega
  refine ud_ro [] [0, 1, 2, 3, 4] [0, 1, 2, 4] (by kernel_rfl) (by kernel_rfl) H fun F1 h hF1 HF H => ?_
  refine to_free rfl rfl rfl rfl rfl (fun _ _ hk => opv_load1 (by first | exact .inr (Has.has HF) | exact .inr (Has.has HR1) | exact .inr (Has.has (HR.mono hF1))) rfl rfl rfl hk) ?_
  refine to_free rfl rfl rfl rfl rfl (fun _ _ hk => opv_loadA (by first | exact .inr (Has.has HF) | exact .inr (Has.has HR1) | exact .inr (Has.has (HR.mono hF1))) rfl rfl hk) ?_
  refine to_free rfl rfl rfl rfl rfl (fun _ _ hk => opv_move rfl rfl hk) ?_
  refine to_eff rfl rfl rfl rfl rfl (opv_call rfl rfl rfl (opv_to [] [] H (fun F2 h1 hF2 HR1 H1 => have hF := Hp.le_trans hF1 hF2; plan_counter o (by omega) (by omega)) ?_))
  rintro v h1 h ⟨rfl, H1⟩ J
  have H := J H1
  refine to_free rfl rfl rfl rfl rfl (fun _ _ hk => opv_arith rfl rfl rfl rfl (by first | exact wi (by omega) | rfl) hk) ?_
  refine to_end fun h J => ?_
  have H := J H
  refine ud_op 5 (by kernel_rfl) (by kernel_rfl) rfl rfl rfl rfl (opv_call rfl rfl rfl (opv_to [] [0] H (fun F1 h1 hF HR1 H1 => have e := Int.toNat_of_nonneg (show 0 ≤ c.counterAt i + 3 by omega); e ▸ mpoke (by simpa using hlc) H1) ?_))
  rintro v h1 h ⟨rfl, H1⟩ J
  have H := J H1
  refine ud_end (by kernel_rfl) ?_
  refine ur_end0 G Tryz.func143 rfl ⟨rfl, ?_⟩
  unfold Cf.layW
  rw [hLd]
  exact H.keep [0]

theorem plan_fresh (o : c.Ok) (R : RdC F c A) : CallS Tryz.prog F 100 [(.agg (cfv c A).toArray)].toArray h fun v h' => ∃ mb, v = .pointer (some ⟨mb, 0, none⟩) ∧ Own [MemR mb c.freshW 0] h' := by
  refine callS_intro Tryz.func100 rfl rfl rfl fun C G => ?_
  have hn := o.nodes
  have hsz := o.size
  have H : Own [] h := trivial
  have e := Int.toNat_of_nonneg (show 0 ≤ c.size by omega)
  repeat refine ur_seq ?_
  refine ur_region rfl ?_
  refine ur_opw rfl rfl rfl rfl rfl (opv_box H rfl rfl fun b1 h hb1 H => ?_)
  refine ur_opw rfl rfl rfl rfl rfl (opv_assign rfl rfl ?_)
  refine ur_region_end ?_
  repeat refine ur_seq ?_
  refine ur_region rfl ?_
  refine ur_opw rfl rfl rfl rfl rfl (opv_loadA (by first | exact .inl (Has.has H) | exact .inr (Has.has HR)) rfl rfl ?_)
  refine ur_opw rfl rfl rfl rfl rfl (opv_call rfl rfl rfl (opv_to [] [] H (fun F1 h1 hF HR1 H1 => plan_size o) ?_))
  rintro v h1 h ⟨rfl, H1⟩ J
  have H := J H1
  refine ur_opw rfl rfl rfl rfl rfl (opv_call rfl rfl rfl (opv_to [] [] H (fun F1 h1 hF HR1 H1 => e ▸ mnew (by omega) (by omega)) ?_))
  rintro v h1 h ⟨mb, rfl, H1⟩ J
  have H := J H1
  refine ur_opw rfl rfl rfl rfl rfl (opv_alloc H rfl fun b2 h hb2 H => ?_)
  refine ur_opw0 rfl rfl rfl rfl (opv_store H rfl rfl rfl rfl rfl rfl rfl fun h H => ?_)
  refine ur_region_end ?_
  repeat refine ur_seq ?_
  refine ur_region rfl ?_
  refine ur_opw rfl rfl rfl rfl rfl (opv_makeFunc rfl rfl rfl ?_)
  refine ur_opw rfl rfl rfl rfl rfl (opv_assign rfl rfl ?_)
  refine ur_region_end ?_
  repeat refine ur_seq ?_
  refine ur_region rfl ?_
  refine ur_opw rfl rfl rfl rfl rfl (opv_fieldAddr0 rfl rfl rfl ?_)
  refine ur_opw rfl rfl rfl rfl rfl (opv_load1 (by first | exact .inl (Has.has H) | exact .inr (Has.has HR)) rfl rfl rfl ?_)
  refine ur_opw rfl rfl rfl rfl rfl (opv_len rfl rfl ?_)
  refine ur_opw rfl rfl rfl rfl rfl (opv_move rfl rfl ?_)
  refine ur_region_end ?_
  repeat refine ur_seq ?_
  refine ur_block ?_
  have H := H.bring [1, 0]
  refine ur_sub (l' := [(13, .int .i64 (0 : Nat)), (12, .int .i64 c.parents.length), (4, .func (.func 143) #[] [.pointer (some ⟨b2, 0, none⟩), .pointer (some ⟨b1, 0, none⟩)].toArray), (3, .pointer (some ⟨b2, 0, none⟩))]) ⟨rfl, rfl, rfl, rfl, trivial⟩ ?_
  refine ur_loop_inv (n := c.parents.length) (fun n l h => ∃ (i : Nat), l = [(13, .int .i64 (i : Nat)), (12, .int .i64 c.parents.length), (4, .func (.func 143) #[] [.pointer (some ⟨b2, 0, none⟩), .pointer (some ⟨b1, 0, none⟩)].toArray), (3, .pointer (some ⟨b2, 0, none⟩))] ∧ n + i = c.parents.length ∧ Own [MemR mb (c.freshN (i)) 0, pt b2 (.cells [Value.pointer (some ⟨mb, 0, none⟩)].toArray 89 (0, 0)), pt b1 (.cells (cfv c A).toArray 24 (0, 0))] h) ⟨0, rfl, by omega, H⟩ ?_
  rintro n ih l h ⟨i, rfl, hn2, H⟩
  repeat refine ur_seq ?_
  refine ur_region rfl ?_
  refine ur_opw rfl rfl rfl rfl rfl (opv_cmp rfl rfl rfl rfl ?_)
  refine ur_region_end ?_
  repeat refine ur_seq ?_
  refine ur_cond rfl (fun hc3 => ?_) (fun hc3 => ?_)
  · -- yes
    try simp only [decide_eq_true_eq, decide_eq_false_iff_not, Bool.not_eq_true', Bool.not_eq_false', beq_iff_eq, bne_iff_ne, beq_eq_false_iff_ne, bne_eq_false_iff_eq, ne_eq, Decidable.not_not] at hc3
    refine ur_skip ?_
    repeat refine ur_seq ?_
    refine ur_block ?_
    repeat refine ur_seq ?_
    refine ur_region rfl ?_
    refine ur_opw rfl rfl rfl rfl rfl (opv_move rfl rfl ?_)
    refine ur_opw rfl rfl rfl rfl rfl (opv_assign rfl rfl ?_)
    refine ur_region_end ?_
    refine ur_region rfl ?_
    refine ur_opw rfl rfl rfl rfl rfl (opv_move rfl rfl ?_)
    refine ur_opw rfl rfl rfl rfl rfl (opv_move rfl rfl ?_)
    refine ur_opw rfl rfl rfl rfl rfl (opv_call rfl rfl rfl (opv_to [1, 1] [0] H (fun F1 h1 hF HR1 H1 => plan_lay o (R.mono hF) (by omega) (c.freshN_length i) HR1 H1) ?_))
    rintro v h1 h ⟨rfl, H1⟩ J
    have H := J H1
    refine ur_region_end ?_
    refine ur_inBlock ?_
    refine ur_region rfl ?_
    refine ur_opw rfl rfl rfl rfl rfl (opv_arith rfl rfl rfl rfl (by first | exact wi (by omega) | rfl) ?_)
    refine ur_opw rfl rfl rfl rfl rfl (opv_move rfl rfl ?_)
    refine ur_region_end ?_
    rw [← c.freshN_succ] at H
    refine ur_sub (l' := [(13, .int .i64 (i + 1 : Nat)), (12, .int .i64 c.parents.length), (4, .func (.func 143) #[] [.pointer (some ⟨b2, 0, none⟩), .pointer (some ⟨b1, 0, none⟩)].toArray), (3, .pointer (some ⟨b2, 0, none⟩))]) ⟨rfl, rfl, rfl, rfl, trivial⟩ ?_
    refine ih (n - 1) _ _ (by omega) ⟨i + 1, rfl, by omega, H.bring [0]⟩
  · -- no
    try simp only [decide_eq_true_eq, decide_eq_false_iff_not, Bool.not_eq_true', Bool.not_eq_false', beq_iff_eq, bne_iff_ne, beq_eq_false_iff_ne, bne_eq_false_iff_eq, ne_eq, Decidable.not_not] at hc3
    refine ur_exit rfl ?_
    repeat refine ur_seq ?_
    refine ur_region rfl ?_
    refine ur_opw rfl rfl rfl rfl rfl (opv_load1 (by first | exact .inl (Has.has H) | exact .inr (Has.has HR)) rfl rfl rfl ?_)
    refine ur_opw rfl rfl rfl rfl rfl (opv_assign rfl rfl ?_)
    refine ur_region_end ?_
    have hi : i = c.parents.length := by omega
    subst hi
    exact ur_ret1 G Tryz.func100 rfl rfl ⟨mb, rfl, H.keep [0]⟩
end Go.Proofs
