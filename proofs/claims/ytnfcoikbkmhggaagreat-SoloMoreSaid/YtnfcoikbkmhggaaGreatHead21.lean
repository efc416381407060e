/- The head of the statements of layer 21. -/
import Derived.Test.YtnfcoikbkmhggaaGreatSdGood
import Derived.Test.YtnfcoikbkmhggaaGreatAll
set_option linter.all false
set_option linter.unusedVariables false
set_option linter.unusedSimpArgs false
namespace Go.BL
theorem Sd.Inv.finish {I : Sd → Prop} {φ : Sd → Nat} {c : Cf} (V : Sd.Inv I φ c) : ∀ (k : Nat) (s : Sd) (t : Int), I s → I (s.finish k t).1
  | 0, _, _, h => h
  | k + 1, s, t, h => by
    unfold Sd.finish
    split
    · exact V.finish k _ t (V.pick s t h)
    · exact h
theorem Sd.Inv.passL {I : Sd → Prop} {φ : Sd → Nat} {c : Cf} (V : Sd.Inv I φ c) : ∀ (o : List Int) (s : Sd) (n : Nat), I s → I (s.passL n o).1
  | [], _, _, h => h
  | t :: o, s, n, h => by
    unfold Sd.passL
    split
    · exact h
    · exact V.passL o _ _ (V.pick s t h)
theorem Sd.Inv.allN {I : Sd → Prop} {φ : Sd → Nat} {c : Cf} (V : Sd.Inv I φ c) : ∀ (k : Nat) (s : Sd) (o : List Int) (n : Nat) (r : Sd × Nat), I s → s.allN k o n = some r → I r.1
  | 0, _, _, _, _, _, h => by cases h
  | k + 1, s, o, n, r, h, e => by
    unfold Sd.allN at e
    have h1 := V.passL o s n h
    split at e
    · cases e; exact h1
    · split at e
      · exact V.allN k _ _ _ _ h1 e
      · cases e; exact h1
theorem Sd.finish_idle {s : Sd} {t : Int} (h : s.busy t = false) : ∀ k, s.finish k t = (s, 0)
  | 0 => rfl
  | k + 1 => by unfold Sd.finish; rw [if_neg (by simp [h])]
theorem Sd.allN_nil (k : Nat) (s : Sd) (n : Nat) : s.allN (k + 1) [] n = some (s, n) := by simp [Sd.allN, Sd.passL]
end Go.BL
namespace Go.Proofs
open Go.BL
variable {F h : Hp} {c : Cf} {A : CA} {L : List HProp}
theorem baseC_ok : baseC.Ok := by
  refine ⟨by decide, .inr (.inl rfl), by decide, by decide, by decide, by decide, by decide, rfl, by decide, rfl, fun i p hi hp => ?_⟩
  match i, hp with
  | 0, _ => omega
  | 1, hp => simp [baseC] at hp; subst hp; omega
  | 2, hp => simp [baseC] at hp; subst hp; omega
  | 3, hp => simp [baseC] at hp; subst hp; omega
  | i + 4, hp => simp [baseC] at hp
theorem RdC.ofPts {b1 b2 : Nat} (e1 : A.pa = some ⟨b1, 0, none⟩) (e2 : A.la = some ⟨b2, 0, none⟩) (H : Own [pt b1 (.cells (ints c.parents).toArray 3 (0, 0)), pt b2 (.cells (ints c.limits).toArray 3 (0, 0))] F) : RdC F c A :=
  ⟨by rw [e1]; exact RdSl.ofPt (Has.has H) (by simp), by rw [e2]; exact RdSl.ofPt (Has.has H) (by simp)⟩
def h21C : List (List Cl) := [[⟨3, 1, 3⟩], [⟨6, 0, 0⟩]]
theorem h21C_ok : ScOk baseC h21C := ⟨by decide, by decide, by intro l hl x hx; simp [h21C] at hl; rcases hl with rfl | rfl <;> simp at hx <;> subst hx <;> simp [Cl.kindOk]⟩
def h21a : Sd := Sd.new baseC h21C
def h21b : Sd := (h21a.pick 0).1
def h21c : Sd := (h21b.finish 1020 0).1
def h21d : Sd := (h21c.passL 0 [0, 1, 7]).1
theorem h21_bound : baseC.bound = 102 ∧ baseC.window = 3264 := by decide
theorem h21_a : h21a.busy 0 = false := by decide
theorem h21_b : (h21b.finish 1020 0).2 = 2 := by decide
theorem h21_c : (h21c.passL 0 [0, 1, 7]).2 = (1, true) := by decide
theorem h21_d : h21d.idle = true := by decide
theorem RdCs.ofPts2 {b b1 b2 : Nat} {l1 l2 : List Cl} (H : Own [pt b (.cells [Value.slice (some ⟨b1, 0, none⟩) l1.length l1.length, Value.slice (some ⟨b2, 0, none⟩) l2.length l2.length].toArray 41 (0, 0)), pt b1 (.cells (clsv l1).toArray 70 (0, 0)), pt b2 (.cells (clsv l2).toArray 70 (0, 0))] F) : RdCs F (some ⟨b, 0, none⟩) [l1, l2] := by
  refine ⟨[(some ⟨b1, 0, none⟩, l1.length), (some ⟨b2, 0, none⟩, l2.length)], rfl, RdSl.ofPt (Has.has H) rfl, fun i v l hv hl => ?_⟩
  match i, hv, hl with
  | 0, hv, hl => simp at hv hl; subst hv hl; exact RdSl.ofPt (Has.has H) (clsv_length _)
  | 1, hv, hl => simp at hv hl; subst hv hl; exact RdSl.ofPt (Has.has H) (clsv_length _)
  | i + 2, hv, _ => simp at hv

theorem h21_head  : CallS Tryz.prog F 21 [].toArray h fun v h' => v = .bool true := by
  refine callS_intro Tryz.func21 rfl rfl rfl fun C G => ?_
  have H : Own [] h := trivial
  have hb0 : (10 * baseC.bound).toNat = 1020 := by rw [h21_bound.1]; rfl
  have K0 : h21a.Kept baseC := Sd.new_kept baseC_ok h21C_ok
  have K1 : h21b.Kept baseC := Sd.kept_inv.pick _ _ K0
  have K2 : h21c.Kept baseC := Sd.kept_inv.finish _ _ _ K1
  have K3 : h21d.Kept baseC := Sd.kept_inv.passL _ _ _ K2
  have e1 : h21b.finish 1020 0 = (h21c, 2) := Prod.ext rfl h21_b
  have e2 : h21c.allN 1 [0, 1, 7] 0 = some (h21d, 1) := by
    have := h21_c
    unfold Sd.allN
    rw [this]; rfl
  repeat refine ur_seq ?_
  refine ur_region rfl ?_
  refine ur_opw rfl rfl rfl rfl rfl (opv_assign rfl rfl ?_)
  refine ur_region_end ?_
  repeat refine ur_seq ?_
  refine ur_region rfl ?_
  refine ur_opw rfl rfl rfl rfl rfl (opv_call rfl rfl rfl (opv_to [] [] H (fun F1 h1 hF HR1 H1 => lw_base) ?_))
  rintro v h1 h ⟨A, pb, lb, rfl, eA1, eA2, H1⟩ J
  have H := J H1
  refine ur_opw rfl rfl rfl rfl rfl (opv_alloc H rfl fun b1 h hb1 H => ?_)
  refine ur_opw0 rfl rfl rfl rfl (opv_store H rfl rfl rfl rfl rfl rfl rfl fun h H => ?_)
  refine ur_region_end ?_
  repeat refine ur_seq ?_
  refine ur_region rfl ?_
  refine ur_opw rfl rfl rfl rfl rfl (opv_loadA (by first | exact .inl (Has.has H) | exact .inr (Has.has HR)) rfl rfl ?_)
  refine ur_opw rfl rfl rfl rfl rfl (opv_build rfl rfl ?_)
  refine ur_opw rfl rfl rfl rfl rfl (opv_buildSlice H rfl rfl rfl rfl rfl fun b2 h hb2 H => ?_)
  refine ur_opw rfl rfl rfl rfl rfl (opv_build rfl rfl ?_)
  refine ur_opw rfl rfl rfl rfl rfl (opv_buildSlice H rfl rfl rfl rfl rfl fun b3 h hb3 H => ?_)
  refine ur_opw rfl rfl rfl rfl rfl (opv_buildSlice H rfl rfl rfl rfl rfl fun b4 h hb4 H => ?_)
  refine ur_opw rfl rfl rfl rfl rfl (opv_call rfl rfl rfl (opv_to [4, 4, 0, 1, 0] [] H (fun F1 h1 hF HR1 H1 => sd_new (cs := h21C) baseC_ok (RdC.ofPts eA1 eA2 (HR1.keep [0, 0])) (RdCs.ofPts2 (l1 := [⟨3, 1, 3⟩]) (l2 := [⟨6, 0, 0⟩]) (HR1.keep [2, 2, 2])) (by decide) (by decide)) ?_))
  rintro v h1 h ⟨sb, bs, rfl, H1⟩ J
  have H := J H1
  have H := H.keep [0, 0, 0, 3]
  refine ur_opw rfl rfl rfl rfl rfl (opv_assign rfl rfl ?_)
  refine ur_region_end ?_
  repeat refine ur_seq ?_
  refine ur_region rfl ?_
  refine ur_opw rfl rfl rfl rfl rfl (opv_loadA (by first | exact .inl (Has.has H) | exact .inr (Has.has HR)) rfl rfl ?_)
  refine ur_opw rfl rfl rfl rfl rfl (opv_call rfl rfl rfl (opv_to [1, 1] [] H (fun F1 h1 hF HR1 H1 => so_new baseC_ok (RdC.ofPts eA1 eA2 (HR1.keep [0, 0]))) ?_))
  rintro v h1 h ⟨xb, rfl, H1⟩ J
  have H := J H1
  have H := H.bring [3, 0, 0, 0]
  refine ur_opw rfl rfl rfl rfl rfl (opv_assign rfl rfl ?_)
  refine ur_region_end ?_
  repeat refine ur_seq ?_
  refine ur_region rfl ?_
  refine ur_opw rfl rfl rfl rfl rfl (opv_move rfl rfl ?_)
  refine ur_opw rfl rfl rfl rfl rfl (opv_move rfl rfl ?_)
  refine ur_opw rfl rfl rfl rfl rfl (opv_call rfl rfl rfl (opv_to [2, 2] [0, 0] H (fun F1 h1 hF HR1 H1 => (so_finish (s := h21a) (t := 0) Sd.kept_inv baseC_ok (RdC.ofPts eA1 eA2 (HR1.keep [0, 0])) K0 H1).mono fun v h q => by rw [hb0, Sd.finish_idle h21_a] at q; exact q) ?_))
  rintro v h1 h ⟨rfl, H1⟩ J
  have H := J H1
  refine ur_opw rfl rfl rfl rfl rfl (opv_assign rfl rfl ?_)
  refine ur_region_end ?_
  repeat refine ur_seq ?_
  refine ur_region rfl ?_
  refine ur_opw rfl rfl rfl rfl rfl (opv_move rfl rfl ?_)
  refine ur_opw rfl rfl rfl rfl rfl (opv_call rfl rfl rfl (opv_to [2, 2] [0] H (fun F1 h1 hF HR1 H1 => sd_pick (i := 0) (s := h21a) (A := A) (RdC.ofPts eA1 eA2 (HR1.keep [0, 0])) (Sd.kept_inv.can _ K0) H1) ?_))
  rintro v h1 h ⟨rfl, H1⟩ J
  have H := J H1
  have H := H.bring [0, 2, 0, 0, 0]
  refine ur_region_end ?_
  repeat refine ur_seq ?_
  refine ur_region rfl ?_
  refine ur_opw rfl rfl rfl rfl rfl (opv_move rfl rfl ?_)
  refine ur_opw rfl rfl rfl rfl rfl (opv_move rfl rfl ?_)
  refine ur_opw rfl rfl rfl rfl rfl (opv_call rfl rfl rfl (opv_to [2, 2] [0, 0] H (fun F1 h1 hF HR1 H1 => (so_finish (s := h21b) (t := 0) Sd.kept_inv baseC_ok (RdC.ofPts eA1 eA2 (HR1.keep [0, 0])) K1 H1).mono fun v h q => by rw [hb0, e1] at q; exact q) ?_))
  rintro v h1 h ⟨rfl, H1⟩ J
  have H := J H1
  refine ur_opw rfl rfl rfl rfl rfl (opv_assign rfl rfl ?_)
  refine ur_region_end ?_
  repeat refine ur_seq ?_
  refine ur_region rfl ?_
  refine ur_opw rfl rfl rfl rfl rfl (opv_move rfl rfl ?_)
  refine ur_opw rfl rfl rfl rfl rfl (opv_move rfl rfl ?_)
  refine ur_opw rfl rfl rfl rfl rfl (opv_buildSlice H rfl rfl rfl rfl rfl fun b5 h hb5 H => ?_)
  refine ur_opw rfl rfl rfl rfl rfl (opv_call rfl rfl rfl (opv_to [0, 2, 2] [0] H (fun F1 h1 hF HR1 H1 => (so_all (s := h21c) (o := [0, 1, 7]) (r := (h21d, 1)) Sd.kept_inv (RdC.ofPts eA1 eA2 (HR1.keep [1, 1])) (RdSl.ofPt (Has.has HR1) rfl) (by decide) K2 e2 H1).mono fun v h q => by rw [h21_d] at q; exact q) ?_))
  rintro v h1 h ⟨rfl, H1⟩ J
  have H := J H1
  have H := H.keep [0, 3, 1, 1, 1]
  refine ur_opw rfl rfl rfl rfl rfl (opv_move rfl rfl ?_)
  refine ur_opw rfl rfl rfl rfl rfl (opv_extract rfl rfl rfl ?_)
  refine ur_opw rfl rfl rfl rfl rfl (opv_extract rfl rfl rfl ?_)
  refine ur_opw rfl rfl rfl rfl rfl (opv_assign rfl rfl ?_)
  refine ur_opw rfl rfl rfl rfl rfl (opv_assign rfl rfl ?_)
  refine ur_region_end ?_
  repeat refine ur_seq ?_
  refine ur_region rfl ?_
  refine ur_opw rfl rfl rfl rfl rfl (opv_move rfl rfl ?_)
  refine ur_opw rfl rfl rfl rfl rfl (opv_move rfl rfl ?_)
  refine ur_opw rfl rfl rfl rfl rfl (opv_call rfl rfl rfl (opv_to [2, 2] [0] H (fun F1 h1 hF HR1 H1 => (so_all (s := h21d) (o := []) (k := 1) (r := (h21d, 0)) Sd.kept_inv (RdC.ofPts eA1 eA2 (HR1.keep [0, 0])) (fun _ => ⟨rfl, .inl rfl⟩) (by decide) K3 (Sd.allN_nil 0 _ _) H1).mono fun v h q => by rw [h21_d] at q; exact q) ?_))
  rintro v h1 h ⟨rfl, H1⟩ J
  have H := J H1
  have H := H.bring [0, 2, 0, 0, 0]
  refine ur_opw rfl rfl rfl rfl rfl (opv_move rfl rfl ?_)
  refine ur_opw rfl rfl rfl rfl rfl (opv_extract rfl rfl rfl ?_)
  refine ur_opw rfl rfl rfl rfl rfl (opv_extract rfl rfl rfl ?_)
  refine ur_opw rfl rfl rfl rfl rfl (opv_assign rfl rfl ?_)
  refine ur_opw rfl rfl rfl rfl rfl (opv_assign rfl rfl ?_)
  refine ur_region_end ?_
  repeat refine ur_seq ?_
  refine ur_region rfl ?_
  refine ur_opw rfl rfl rfl rfl rfl (opv_loadA (by first | exact .inl (Has.has H) | exact .inr (Has.has HR)) rfl rfl ?_)
  refine ur_opw rfl rfl rfl rfl rfl (opv_call rfl rfl rfl (opv_to [2, 2] [] H (fun F1 h1 hF HR1 H1 => (so_bound baseC_ok (RdC.ofPts eA1 eA2 (HR1.keep [0, 0]))).mono fun v h q => by rw [h21_bound.1] at q; exact q) ?_))
  rintro v h1 h ⟨rfl⟩ J
  have H := J (LN := []) trivial
  have H := H.bring [2, 2, 0, 0, 0]
  refine ur_opw rfl rfl rfl rfl rfl (opv_cmp rfl rfl rfl rfl ?_)
  refine ur_opw rfl rfl rfl rfl rfl (opv_move rfl rfl ?_)
  refine ur_opw rfl rfl rfl rfl rfl (opv_loadA (by first | exact .inl (Has.has H) | exact .inr (Has.has HR)) rfl rfl ?_)
  refine ur_opw rfl rfl rfl rfl rfl (opv_call rfl rfl rfl (opv_to [2, 2] [] H (fun F1 h1 hF HR1 H1 => (so_window baseC_ok (RdC.ofPts eA1 eA2 (HR1.keep [0, 0]))).mono fun v h q => by rw [h21_bound.2] at q; exact q) ?_))
  rintro v h1 h ⟨rfl⟩ J
  have H := J (LN := []) trivial
  refine ur_opw rfl rfl rfl rfl rfl (opv_cmp rfl rfl rfl rfl ?_)
  refine ur_opw rfl rfl rfl rfl rfl (opv_pick rfl rfl rfl ?_)
  refine ur_opw rfl rfl rfl rfl rfl (opv_move rfl rfl ?_)
  refine ur_opw rfl rfl rfl rfl rfl (opv_move rfl rfl ?_)
  refine ur_opw rfl rfl rfl rfl rfl (opv_cmp rfl rfl rfl rfl ?_)
  refine ur_opw rfl rfl rfl rfl rfl (opv_pick rfl rfl rfl ?_)
  refine ur_opw rfl rfl rfl rfl rfl (opv_move rfl rfl ?_)
  refine ur_opw rfl rfl rfl rfl rfl (opv_move rfl rfl ?_)
  refine ur_opw rfl rfl rfl rfl rfl (opv_cmp rfl rfl rfl rfl ?_)
  refine ur_opw rfl rfl rfl rfl rfl (opv_pick rfl rfl rfl ?_)
  refine ur_opw rfl rfl rfl rfl rfl (opv_move rfl rfl ?_)
  refine ur_opw rfl rfl rfl rfl rfl (opv_move rfl rfl ?_)
  refine ur_opw rfl rfl rfl rfl rfl (opv_cmp rfl rfl rfl rfl ?_)
  refine ur_opw rfl rfl rfl rfl rfl (opv_pick rfl rfl rfl ?_)
  refine ur_opw rfl rfl rfl rfl rfl (opv_move rfl rfl ?_)
  refine ur_opw rfl rfl rfl rfl rfl (opv_move rfl rfl ?_)
  refine ur_opw rfl rfl rfl rfl rfl (opv_pick rfl rfl rfl ?_)
  refine ur_opw rfl rfl rfl rfl rfl (opv_move rfl rfl ?_)
  refine ur_opw rfl rfl rfl rfl rfl (opv_move rfl rfl ?_)
  refine ur_opw rfl rfl rfl rfl rfl (opv_cmp rfl rfl rfl rfl ?_)
  refine ur_opw rfl rfl rfl rfl rfl (opv_pick rfl rfl rfl ?_)
  refine ur_opw rfl rfl rfl rfl rfl (opv_move rfl rfl ?_)
  refine ur_opw rfl rfl rfl rfl rfl (opv_move rfl rfl ?_)
  refine ur_opw rfl rfl rfl rfl rfl (opv_pick rfl rfl rfl ?_)
  refine ur_opw rfl rfl rfl rfl rfl (opv_assign rfl rfl ?_)
  refine ur_region_end ?_
  exact ur_ret1 G Tryz.func21 rfl rfl rfl
end Go.Proofs
