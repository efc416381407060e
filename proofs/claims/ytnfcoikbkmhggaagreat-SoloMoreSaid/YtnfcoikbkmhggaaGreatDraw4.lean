/- A piece of a region whose order is drawn, walked in one order. -/
import Derived.Test.YtnfcoikbkmhggaaGreatDraw3
set_option linter.all false
set_option linter.unusedVariables false
set_option linter.unusedSimpArgs false
namespace Go.BL
variable {P : Program} {F h : Hp} {Q : Hp → Prop} {N : Nat} {l : TL} {C : Ctx} {k : List Item} {ds : List Deferred} {O ops : Array Oper}

theorem lin_congr : ∀ (js : List Nat) {S S' : List Nat}, (∀ i, i ∈ S ↔ i ∈ S') → LinC O S js → LinC O S' js
  | [], S, S', hs, H => fun i hi => (hs i).1 (H i hi)
  | j :: js, S, S', hs, ⟨h1, h2, h3, h4⟩ => ⟨fun x => h1 ((hs j).2 x), h2, fun e he => (hs e).1 (h3 e he), lin_congr js (fun i => by simp [hs i]) h4⟩

theorem seg_run {S js0 free : List Nat} {K : TL → Hp → Prop} (G : Seg O ops N S js0 free) (hSc : ∀ j ∈ S, ∀ e ∈ preds O j, e ∈ S)
    (hK : ∀ l' h' js a, K l' h' → LinC O (S ++ js0) js → Env N l' a → a.defers = ds → C.run P F a (.inRegion ops js :: k) h') :
    ∀ (jp Sp : List Nat) (D : List DE) (dn js : List Nat) (l : TL) (h : Hp) (ac ap : Act), Inv P F Q O ops N S js0 ds Sp D dn js l ac ap → LinC O Sp jp → Q h → TO P F N Q ops free js l h K → C.run P F ap (.inRegion ops jp :: k) h := by
  -- where all is done
  have fin : ∀ (jp Sp : List Nat) (D : List DE) (dn js : List Nat) (l : TL) (h : Hp) (ac ap : Act), Inv P F Q O ops N S js0 ds Sp D dn js l ac ap → LinC O Sp jp → TO P F N Q ops free js l h K → (∀ i ∈ js0, i ∈ Sp) →
      C.run P F ap (.inRegion ops jp :: k) h := by
    intro jp Sp D dn js l h ac ap I hl ht hall
    have hjs : js = [] := by
      cases js with
      | nil => rfl
      | cons x js => exact absurd (hall x (by rw [I.spl]; simp)) (I.jsn x (by simp))
    have hD : D = [] := by
      cases D with
      | nil => rfl
      | cons e D => exact absurd (hall e.i (by rw [I.spl]; simp [(I.dok e (by simp)).2.1])) (I.dok e (by simp)).2.2
    subst hjs; subst hD
    have hdn : js0 = dn := by rw [I.spl]; simp
    refine hK l h jp ap ht (lin_congr jp (fun i => ?_) hl) ⟨I.size, fun t v hv => ?_⟩ I.def_.1
    · constructor
      · intro hi
        rcases I.sup i hi with x | x
        · exact List.mem_append.2 (.inl x)
        · exact List.mem_append.2 (.inr (hdn ▸ x))
      · intro hi
        rcases List.mem_append.1 hi with x | x
        · exact I.sub i x
        · exact hall i x
    · rcases I.rel t with ⟨e, he, _⟩ | ⟨_, y⟩
      · cases he
      · rw [y]; exact I.env.2 t v hv
  intro jp
  induction jp with
  | nil =>
    intro Sp D dn js l h ac ap I hl hq ht
    exact fin [] Sp D dn js l h ac ap I hl ht fun i hi => hl i (by rw [G.sz]; exact (G.lt i hi).1)
  | cons j jp ih =>
    intro Sp D dn js l h ac ap I hl hq ht
    obtain ⟨hj1, hj2, hj3, hj4⟩ := hl
    -- one that was booked
    have exec : ∀ (D : List DE) (dn js : List Nat) (l : TL) (ac : Act), Inv P F Q O ops N S js0 ds Sp D dn js l ac ap → TO P F N Q ops free js l h K → (∃ e ∈ D, e.i = j) → C.run P F ap (.inRegion ops (j :: jp) :: k) h := by
      intro D dn js l ac I ht ⟨e, he, hej⟩
      subst hej
      obtain ⟨hag, I'⟩ := I.done G he hj3
      obtain ⟨ho, hp, hd⟩ := (I.dok e he).1
      have next := ih (e.i :: Sp) _ dn js l h ac _ I' hj4 hq ht
      rcases hd with ⟨hw, hs⟩ | ⟨hw, hv⟩
      · refine run_phys ho hp (by rw [wanted_agree hag]; exact hw) (execOp_agree hp hag) (hs h (fun v' h' => v' = e.v ∧ h' = h) hq ⟨rfl, rfl⟩) ?_
        rintro v' h' ⟨rfl, rfl⟩
        exact next
      · rw [hv] at next
        exact run_pass ho (by rw [wanted_agree hag]; exact hw) next
    by_cases hj0 : j ∈ js0
    · rw [I.spl] at hj0
      rcases List.mem_append.1 hj0 with hd | hd
      · rcases I.cov j hd with x | x
        · exact absurd x hj1
        · exact exec D dn js l ac I ht x
      · -- walk on till j
        clear hj0
        induction js generalizing D dn l ac with
        | nil => cases hd
        | cons x js ihj =>
          obtain ⟨o, w, ho, hp, hw, t1, t2, t3⟩ := ht
          have hx0 : x ∈ js0 := by rw [I.spl]; simp
          have hwa := wantL_spec I.env hw
          -- what is booked of x
          have bk : ∀ v, DOK P F Q ops ⟨x, o, v, ac⟩ → TO P F N Q ops free js (putD o.dst v l) h K → C.run P F ap (.inRegion ops (j :: jp) :: k) h := by
            intro v hdk ht'
            have I' := I.book G hSc ho hdk
            by_cases hxj : x = j
            · exact exec _ _ _ _ _ I' ht' ⟨_, List.mem_cons_self, hxj⟩
            · refine ihj _ _ _ _ I' ht' ?_
              rcases List.mem_cons.1 hd with y | y
              · exact absurd y.symm hxj
              · exact y
          cases w with
          | false => exact bk undef ⟨ho, hp, .inr ⟨hwa, rfl⟩⟩ (t3 rfl)
          | true =>
            by_cases hf : free.contains x = true
            · obtain ⟨v, hS, ht'⟩ := t1 rfl hf
              exact bk v ⟨ho, hp, .inl ⟨hwa, hS ac I.env⟩⟩ ht'
            · have hf' : free.contains x = false := by simpa using hf
              by_cases hxj : x = j
              · subst hxj
                obtain ⟨s, hs, hS⟩ := t2 rfl hf'
                have hnd : (dn ++ x :: js).Nodup := I.spl ▸ G.nd
                have hjdn : x ∉ dn := fun y => (List.nodup_append.1 hnd).2.2 x y x (by simp) rfl
                have hclosed := walked_closed G I.spl hSc
                have hD0 : ∀ e ∈ D, e.i ∈ js0 := fun e he => by rw [I.spl]; exact List.mem_append.2 (.inl (I.dok e he).2.1)
                have hDx : ∀ e ∈ D, e.i ≠ x := fun e he y => hjdn (y ▸ (I.dok e he).2.1)
                have hnj : ∀ e ∈ D, anc O e.i x = false := fun e he => by
                  cases ha : anc O e.i x with
                  | false => rfl
                  | true =>
                    have := anc_in hclosed (hclosed e.i (List.mem_append.2 (.inr (I.dok e he).2.1))) ha
                    rcases List.mem_append.1 this with y | y
                    · exact absurd y (G.lt x hx0).2
                    · exact absurd y hjdn
                have hna : ∀ e ∈ D, anc O x e.i = false := fun e he => by
                  cases ha : anc O x e.i with
                  | false => rfl
                  | true => exact absurd (anc_in I.clo hj3 ha) (I.dok e he).2.2
                have hag : ∀ t ∈ o.looksAt ops, ap.tmps[t]? = ac.tmps[t]? := fun t ht => by
                  rcases I.rel t with ⟨e, he, y, _⟩ | ⟨_, y⟩
                  · rcases (G.dst e.i (hD0 e he) e.o t (I.dok e he).1.1 y).2.2 x hx0 o ho ht with z | z
                    · rw [hna e he] at z; cases z
                    · rw [hnj e he] at z; cases z
                  · exact y
                have hdl : ∀ d, o.dst = some d → d < N := fun d hdd => (G.dst x hx0 o d ho hdd).1
                refine run_phys ho hp (by rw [wanted_agree hag]; exact hwa) (execOp_agree hp hag) (by rw [hs ac I.env]; exact hS) fun v h' hh => ?_
                obtain ⟨hq', ht'⟩ := hh
                refine ih (x :: Sp) D (dn ++ [x]) js (putD o.dst v l) h' (ac.put o.dst v) _ ?_ hj4 hq' ht'
                refine ⟨I.env.putD' hdl v, by rw [put_size]; exact I.size, ⟨by rw [Act.put_defers]; exact I.def_.1, by rw [Act.put_defers]; exact I.def_.2⟩, fun e he => ⟨(I.dok e he).1, by simp [(I.dok e he).2.1], fun y => ?_⟩, I.dnd, by rw [I.spl]; simp, fun i hi => ?_, fun i hi y => ?_,
                  fun i hi => by simp [I.sub i hi], fun i hi => ?_, fun i hi e he => ?_, fun t => ?_, fun e he t ht => ?_⟩
                · rcases List.mem_cons.1 y with z | z
                  · exact hDx e he z
                  · exact (I.dok e he).2.2 z
                · rcases List.mem_append.1 hi with y | y
                  · rcases I.cov i y with z | z
                    · exact .inl (by simp [z])
                    · exact .inr z
                  · simp at y; subst y; exact .inl (by simp)
                · rcases List.mem_cons.1 y with z | z
                  · subst z
                    have := (List.nodup_append.1 hnd).2.1
                    simp only [List.nodup_cons] at this
                    exact this.1 hi
                  · exact I.jsn i (by simp [hi]) z
                · rcases List.mem_cons.1 hi with y | y
                  · subst y; exact .inr (by simp)
                  · rcases I.sup i y with z | z
                    · exact .inl z
                    · exact .inr (by simp [z])
                · rcases List.mem_cons.1 hi with y | y
                  · subst y; exact List.mem_cons_of_mem _ (hj3 e he)
                  · exact List.mem_cons_of_mem _ (I.clo i y e he)
                · by_cases hdt : o.dst = some t
                  · refine .inr ⟨fun e he => (G.dst x hx0 o t ho hdt).2.1 e.i (hD0 e he) e.o (I.dok e he).1.1 (hDx e he), ?_⟩
                    rw [put_get, put_get, if_pos ⟨hdt, by rw [I.size]; exact hdl t hdt⟩, if_pos ⟨hdt, by rw [I.env.1]; exact hdl t hdt⟩]
                  · rcases I.rel t with ⟨e, he, y, z⟩ | ⟨y, z⟩
                    · exact .inl ⟨e, he, y, by rw [put_get, if_neg (by simp [hdt])]; exact z⟩
                    · exact .inr ⟨y, by rw [put_get, put_get, if_neg (by simp [hdt]), if_neg (by simp [hdt])]; exact z⟩
                · have hdt : o.dst ≠ some t := fun hdt => by
                    rcases (G.dst x hx0 o t ho hdt).2.2 e.i (hD0 e he) e.o (I.dok e he).1.1 ht with z | z
                    · rw [hnj e he] at z; cases z
                    · rw [hna e he] at z; cases z
                  rcases I.snap e he t ht with y | ⟨y, z⟩
                  · exact .inl y
                  · exact .inr ⟨y, by rw [put_get, if_neg (by simp [hdt])]; exact z⟩
              · -- an operation that is no free one comes ahead of all behind it
                have hjs : j ∈ js := by
                  rcases List.mem_cons.1 hd with y | y
                  · exact absurd y.symm hxj
                  · exact y
                have := G.eff dn x js I.spl hf' j hjs
                exact absurd (anc_in I.clo hj3 this) (I.jsn x (by simp))
    · refine fin (j :: jp) Sp D dn js l h ac ap I ⟨hj1, hj2, hj3, hj4⟩ ht fun i hi => ?_
      exact anc_in I.clo hj3 (G.out j (by rw [← G.sz]; exact hj2) (fun x => hj1 (I.sub j x)) hj0 i hi)

/-- What was done is closed: checked by program. -/
def closedS (O : Array Oper) (S : List Nat) : Bool := S.all fun j => (preds O j).all fun e => S.contains e
theorem closedS_spec {S : List Nat} (H : closedS O S = true) : ∀ j ∈ S, ∀ e ∈ preds O j, e ∈ S := by
  unfold closedS at H
  simp only [List.all_eq_true] at H
  intro j hj e he
  simpa using H j hj e he

theorem Inv.start {S js free : List Nat} {a : Act} (G : Seg O ops N S js free) (hc : ∀ j ∈ S, ∀ e ∈ preds O j, e ∈ S) (e : Env N l a) (hd : a.defers = ds) : Inv P F Q O ops N S js ds S [] [] js l a a where
  env := e
  size := e.1
  def_ := ⟨hd, hd⟩
  dok := fun _ he => nomatch he
  dnd := by simp
  spl := rfl
  cov := fun _ hi => nomatch hi
  jsn := fun i hi => (G.lt i hi).2
  sub := fun _ hi => hi
  sup := fun _ hi => .inl hi
  clo := hc
  rel := fun _ => .inr ⟨fun _ he => (nomatch he), rfl⟩
  snap := fun _ he => nomatch he

/-- A piece of the region, walked in one order. -/
theorem ud_seg {S : List Nat} (js free : List Nat) (hc : closedS O S = true) (hg : segOK O ops N S js free = true) (H : TO P F N QT ops free js l h fun l' h' => UD P F N C O ops (S ++ js) k l' ds h') : UD P F N C O ops S k l ds h := by
  intro jp hl a e hd
  refine seg_run (Q := QT) (segOK_spec hg) (closedS_spec hc) (fun l' h' js a hK hl e hd => hK js hl a e hd) jp S [] [] js l h a a ?_ hl trivial H
  exact Inv.start (segOK_spec hg) (closedS_spec hc) e hd

/-- The same, some parts being lent out to be read alone the while. -/
theorem ud_seg_ro {S : List Nat} {L : List HProp} (ro js free : List Nat) (hc : closedS O S = true) (hg : segOK O ops N S js free = true) (HL : Own L h)
    (H : ∀ F' h1, Hp.le F F' → Own (takeL ro L) F' → Own (dropL ro L) h1 →
      TO P F' N QT ops free js l h1 fun l' h2 => ∀ h3, (∀ L1, Own L1 h2 → Own (L1 ++ takeL ro L) h3) → UD P F N C O ops (S ++ js) k l' ds h3) : UD P F N C O ops S k l ds h := by
  intro jp hl a e hd
  obtain ⟨hr, hx, d, le_, oR, oX⟩ := HL.take ro
  have e0 := Hp.less_un le_
  have d3 := Hp.less_dj h (Hp.un hr hx)
  refine Run.fits fun ⟨w, fw⟩ => ?_
  have dF : Hp.dj F hr := Hp.dj_mono fw.dj (Hp.le_refl _) (Hp.le_trans (Hp.le_un_l _ _) le_)
  have c := H (Hp.un F hr) hx (Hp.le_un_l _ _) (oR.mono (Hp.le_un_r dF)) oX
  have r : Run P C.main (Hp.un F hr) (fun fr cs h2 => cs = C.cs ∧ ∃ l' js' a, LinC O (S ++ js) js' ∧ Env N l' a ∧ a.defers = ds ∧ fr = fat C.b a (.inRegion ops js' :: k) ∧
      ∀ h3, (∀ L1, Own L1 h2 → Own (L1 ++ takeL ro L) h3) → UD P F N C O ops (S ++ js) k l' ds h3) (fat C.b a (.inRegion ops jp :: k)) C.cs hx := by
    refine seg_run (Q := QT) (C := { C with Stop := _ }) (segOK_spec hg) (closedS_spec hc) (fun l' h' js a hK hl e hd => Run.stop ⟨rfl, l', js, a, hl, e, hd, rfl, hK⟩) jp S [] [] js l hx a a ?_ hl trivial c
    exact Inv.start (segOK_spec hg) (closedS_spec hc) e hd
  have r2 := (r.thaw d).frame d3
  rw [← e0] at r2
  refine r2.bind ?_
  rintro fr cs hh ⟨ha, rfl, da, hb, rfl, db, rfl, l', js', a', q1, q2, q3, rfl, q4⟩
  refine q4 _ (fun L1 o => ?_) js' q1 a' q2 q3
  refine Own.mono (Hp.le_un_l _ _) (Own.join (Hp.dj_symm db) ?_ o oR)
  rw [Hp.un_comm (Hp.dj_symm db)]
  exact Hp.le_refl _

theorem ud_op {S : List Nat} (j : Nat) {d : Nat} {o : Oper} (hc : closedS O S = true) (hg : segOK O ops N S [j] [] = true) (ho : ops[j]? = some o) (hp : plainOp o.op = true) (hw : wantL ops l o = some true) (hd : o.dst = some d)
    (H : OPV P F N o l h fun v h' => UD P F N C O ops (S ++ [j]) k ((d, v) :: l) ds h') : UD P F N C O ops S k l ds h :=
  ud_seg [j] [] hc hg (to_eff ho hp hw hd rfl (by exact H))
theorem ud_op0 {S : List Nat} (j : Nat) {o : Oper} (hc : closedS O S = true) (hg : segOK O ops N S [j] [] = true) (ho : ops[j]? = some o) (hp : plainOp o.op = true) (hw : wantL ops l o = some true) (hd : o.dst = none)
    (H : OPV P F N o l h fun _ h' => UD P F N C O ops (S ++ [j]) k l ds h') : UD P F N C O ops S k l ds h :=
  ud_seg [j] [] hc hg (to_eff0 ho hp hw hd rfl (by exact H))

/-! ### Two that the text leaves unordered: either one first -/
def edge (O : Array Oper) (a b : Nat) : Array Oper := O.modify a fun o => { o with after := o.after.push ⟨b, .data⟩ }
theorem edge_size (O : Array Oper) (a b : Nat) : (edge O a b).size = O.size := by simp [edge]
theorem edge_preds (O : Array Oper) (a b j : Nat) : ∀ e ∈ preds (edge O a b) j, e ∈ preds O j ∨ (j = a ∧ e = b) := by
  intro e he
  unfold preds edge at he
  rw [Array.getElem?_modify] at he
  unfold preds
  by_cases h : a = j
  · rw [if_pos h] at he
    cases hj : O[j]? with
    | none => rw [hj] at he; cases he
    | some o =>
      rw [hj] at he
      simp only [Option.map_some, Array.toList_push, List.filter_append, List.map_append, List.mem_append] at he
      rcases he with x | x
      · exact .inl x
      · refine .inr ⟨h.symm, ?_⟩
        simp only [List.filter_cons, List.filter_nil] at x
        split at x <;> simp at x
        exact x
  · rw [if_neg h] at he
    exact .inl he
theorem lin_edge_in {O : Array Oper} {a b : Nat} : ∀ (js : List Nat) (S : List Nat), b ∈ S → LinC O S js → LinC (edge O a b) S js
  | [], S, _, H => fun i hi => H i (by rw [edge_size] at hi; exact hi)
  | j :: js, S, hb, ⟨h1, h2, h3, h4⟩ => ⟨h1, by rw [edge_size]; exact h2, fun e he => by
      rcases edge_preds O a b j e he with x | ⟨_, rfl⟩
      · exact h3 e x
      · exact hb, lin_edge_in js (j :: S) (List.mem_cons_of_mem _ hb) h4⟩
theorem lin_edge {O : Array Oper} {a b : Nat} (hab : a ≠ b) : ∀ (js : List Nat) (S : List Nat), LinC O S js → LinC (edge O a b) S js ∨ LinC (edge O b a) S js
  | [], S, H => .inl fun i hi => H i (by rw [edge_size] at hi; exact hi)
  | j :: js, S, ⟨h1, h2, h3, h4⟩ => by
    by_cases ha : j = a
    · refine .inr ⟨h1, by rw [edge_size]; exact h2, fun e he => ?_, lin_edge_in js (j :: S) (by simp [ha]) h4⟩
      rcases edge_preds O b a j e he with x | ⟨x, _⟩
      · exact h3 e x
      · exact absurd (ha.symm.trans x) hab
    · by_cases hb : j = b
      · refine .inl ⟨h1, by rw [edge_size]; exact h2, fun e he => ?_, lin_edge_in js (j :: S) (by simp [hb]) h4⟩
        rcases edge_preds O a b j e he with x | ⟨x, _⟩
        · exact h3 e x
        · exact absurd x ha
      · rcases lin_edge hab js (j :: S) h4 with q | q
        · refine .inl ⟨h1, by rw [edge_size]; exact h2, fun e he => ?_, q⟩
          rcases edge_preds O a b j e he with x | ⟨x, _⟩
          · exact h3 e x
          · exact absurd x ha
        · refine .inr ⟨h1, by rw [edge_size]; exact h2, fun e he => ?_, q⟩
          rcases edge_preds O b a j e he with x | ⟨x, _⟩
          · exact h3 e x
          · exact absurd x hb
theorem ud_order {S : List Nat} (a b : Nat) (hab : Nat.beq a b = false) (H1 : UD P F N C (edge O a b) ops S k l ds h) (H2 : UD P F N C (edge O b a) ops S k l ds h) : UD P F N C O ops S k l ds h := by
  intro js hl
  rcases lin_edge (a := a) (b := b) (fun e => by rw [e, Nat.beq_refl] at hab; cases hab) js S hl with q | q
  · exact H1 js q
  · exact H2 js q
end Go.BL
