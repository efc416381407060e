/- The proof that one order is enough. -/
import Derived.Test.YtnfcoikbkmhggaaGreatDraw2
set_option linter.all false
set_option linter.unusedVariables false
set_option linter.unusedSimpArgs false
namespace Go.BL
variable {P : Program} {F h : Hp} {Q : Hp → Prop} {N : Nat} {l : TL} {C : Ctx} {k : List Item} {ds : List Deferred} {O ops : Array Oper}

/-- An operation that was walked and not yet carried out. -/
structure DE where
  i : Nat
  o : Oper
  v : Value
  a : Act

def DOK (P : Program) (F : Hp) (Q : Hp → Prop) (ops : Array Oper) (e : DE) : Prop :=
  ops[e.i]? = some e.o ∧ plainOp e.o.op = true ∧
    ((Region.wanted e.o (yielded ops e.a.tmps) = true ∧ ∀ (h : Hp) (K : Value → Hp → Prop), Q h → K e.v h → SemS P F h (execOp e.a.eval e.o) fun nx h' => NextK P F nx h' K) ∨
      (Region.wanted e.o (yielded ops e.a.tmps) = false ∧ e.v = undef))

/-- The checks, taken apart. -/
structure Seg (O ops : Array Oper) (N : Nat) (S js free : List Nat) : Prop where
  sz : O.size = ops.size
  lt : ∀ j ∈ js, j < ops.size ∧ j ∉ S
  nd : js.Nodup
  edge : ∀ pre j post, js = pre ++ j :: post → ∀ e ∈ preds O j, e ∈ S ∨ e ∈ pre
  out : ∀ i, i < ops.size → i ∉ S → i ∉ js → ∀ j ∈ js, anc O i j = true
  eff : ∀ pre j post, js = pre ++ j :: post → free.contains j = false → ∀ i ∈ post, anc O i j = true
  dst : ∀ i ∈ js, ∀ o d, ops[i]? = some o → o.dst = some d → d < N ∧ (∀ j ∈ js, ∀ o', ops[j]? = some o' → j ≠ i → o'.dst ≠ some d) ∧
    ∀ j ∈ js, ∀ o', ops[j]? = some o' → d ∈ o'.looksAt ops → anc O j i = true ∨ anc O i j = true

theorem segOK_spec {S js free : List Nat} (H : segOK O ops N S js free = true) : Seg O ops N S js free := by
  unfold segOK at H
  simp only [Bool.and_eq_true, List.all_eq_true, decide_eq_true_eq, Bool.not_eq_true', List.mem_range] at H
  obtain ⟨⟨⟨⟨⟨⟨h0, h1⟩, h2⟩, h3⟩, h4⟩, h5⟩, h6⟩ := H
  refine ⟨h0, fun j hj => ⟨(h1 j hj).1, by simpa using (h1 j hj).2⟩, h2, fun pre j post he e hp => ?_, fun i hi hS hjs j hj => ?_, fun pre j post he hf i hi => ?_, fun i hi o d ho hd => ?_⟩
  · have hlt : pre.length < js.length := by rw [he]; simp
    have := h3 pre.length hlt
    rw [show js.getD pre.length 0 = j by rw [he]; simp [List.getD_eq_getElem?_getD]] at this
    have := this e hp
    rw [he] at this
    simpa using this
  · have := h4 i hi
    simp only [Bool.or_eq_true, List.contains_iff_mem, List.all_eq_true] at this
    rcases this with (x | x) | x
    · exact absurd x hS
    · exact absurd x hjs
    · exact x j hj
  · have hlt : pre.length < js.length := by rw [he]; simp
    have := h5 pre.length hlt
    rw [show js.getD pre.length 0 = j by rw [he]; simp [List.getD_eq_getElem?_getD]] at this
    simp only [hf, Bool.false_or, List.all_eq_true] at this
    refine this i ?_
    rw [he]
    simpa using hi
  · have hh := h6 i hi
    simp only [ho, Option.bind_some, hd, Bool.and_eq_true, decide_eq_true_eq] at hh
    by_cases hne : js = []
    · subst hne; cases hi
    · refine ⟨(hh i hi).1.1, fun j hj o' ho' hji hc => ?_, fun j hj o' ho' hl => ?_⟩
      · have := (hh j hj).1.2
        simp only [ho', Option.bind_some, hc, bne_self_eq_false, Bool.or_false, beq_iff_eq] at this
        exact hji this.symm
      · have := (hh j hj).2
        simp only [ho', Option.map_some, Option.getD_some, Bool.or_eq_true, Bool.not_eq_true'] at this
        rcases this with (x | x) | x
        · have : (o'.looksAt ops).contains d = true := by simpa using hl
          rw [x] at this; cases this
        · exact .inl x
        · exact .inr x

structure Inv (P : Program) (F : Hp) (Q : Hp → Prop) (O ops : Array Oper) (N : Nat) (S js0 : List Nat) (ds : List Deferred) (Sp : List Nat) (D : List DE) (dn js : List Nat) (l : TL) (ac ap : Act) : Prop where
  env : Env N l ac
  size : ap.tmps.size = N
  def_ : ap.defers = ds ∧ ac.defers = ds
  dok : ∀ e ∈ D, DOK P F Q ops e ∧ e.i ∈ dn ∧ e.i ∉ Sp
  dnd : (D.map DE.i).Nodup
  spl : js0 = dn ++ js
  cov : ∀ i ∈ dn, i ∈ Sp ∨ ∃ e ∈ D, e.i = i
  jsn : ∀ i ∈ js, i ∉ Sp
  sub : ∀ i ∈ S, i ∈ Sp
  sup : ∀ i ∈ Sp, i ∈ S ∨ i ∈ dn
  clo : ∀ j ∈ Sp, ∀ e ∈ preds O j, e ∈ Sp
  rel : ∀ t, (∃ e ∈ D, e.o.dst = some t ∧ ac.tmps[t]? = some e.v) ∨ ((∀ e ∈ D, e.o.dst ≠ some t) ∧ ap.tmps[t]? = ac.tmps[t]?)
  snap : ∀ e ∈ D, ∀ t ∈ e.o.looksAt ops, (∃ e' ∈ D, e'.o.dst = some t ∧ anc O e.i e'.i = true ∧ e.a.tmps[t]? = some e'.v) ∨
    ((∀ e' ∈ D, e'.o.dst = some t → anc O e.i e'.i = false) ∧ ap.tmps[t]? = e.a.tmps[t]?)

theorem execOp_agree {o : Oper} {a a' : Act} (hp : plainOp o.op = true) (h : ∀ t ∈ o.looksAt ops, a.tmps[t]? = a'.tmps[t]?) : execOp a.eval o = execOp a'.eval o := by
  refine execOp_congr o (fun cs b e => by rw [e] at hp; cases hp) fun x hx => ?_
  cases x with
  | tmp t =>
    have := h t (by unfold Oper.looksAt; refine List.mem_append.2 (.inl ?_); rw [List.mem_filterMap]; exact ⟨.tmp t, by simpa using hx, rfl⟩)
    simp [Act.eval, Array.getD_eq_getD_getElem?, this]
  | const v => rfl
  | global g => rfl
  | func f => rfl
theorem wanted_agree {o : Oper} {a a' : Act} (h : ∀ t ∈ o.looksAt ops, a.tmps[t]? = a'.tmps[t]?) : Region.wanted o (yielded ops a.tmps) = Region.wanted o (yielded ops a'.tmps) := by
  unfold Region.wanted
  cases hg : o.guard with
  | none => rfl
  | some gw =>
    obtain ⟨g, w⟩ := gw
    simp only []
    unfold yielded
    cases hd : (ops[g]?).bind (·.dst) with
    | none => rfl
    | some t =>
      have := h t (by unfold Oper.looksAt; refine List.mem_append.2 (.inr ?_); rw [hg]; simp [hd])
      simp only [Option.bind_some, this]

theorem plainOp.nd {op : Op} (h : plainOp op = true) : ∀ c, op ≠ .defer c := by
  intro c e; subst e; cases h

/-- One operation in a frame, as it is or passed over. -/
theorem run_phys {i : Nat} {is : List Nat} {o : Oper} {a : Act} {s : Sem Next} {K : Value → Hp → Prop} (ho : ops[i]? = some o) (hp : plainOp o.op = true) (hw : Region.wanted o (yielded ops a.tmps) = true) (hs : execOp a.eval o = s)
    (H : SemS P F h s fun nx h' => NextK P F nx h' K) (hk : ∀ v h', K v h' → C.run P F (a.put o.dst v) (.inRegion ops is :: k) h') : C.run P F a (.inRegion ops (i :: is) :: k) h := by
  have hfin := finish_fat C.b a ops i is k
  simp only [ho, Option.bind_some] at hfin
  refine run_apply (s := s) (fun w => by rw [stepG_fat ho hw (plainOp.nd hp), hs]) (fun _ _ _ _ e => by simp [fat] at e) H fun v h' hK => ?_
  rw [hfin]
  exact hk v h' hK
theorem run_pass {i : Nat} {is : List Nat} {o : Oper} {a : Act} (ho : ops[i]? = some o) (hw : Region.wanted o (yielded ops a.tmps) = false) (hk : C.run P F (a.put o.dst undef) (.inRegion ops is :: k) h) : C.run P F a (.inRegion ops (i :: is) :: k) h := by
  have hfin := finish_fat C.b a ops i is k
  simp only [ho, Option.bind_some] at hfin
  refine Run.quiet (fun w => ?_) hk
  rw [← hfin]
  have hev := eval_fat C.b a (.inRegion ops (i :: is) :: k)
  simp [StepTo, stepG, stepG.exec, fat, ho, hw]

theorem put_get (a : Act) (d : Option Tmp) (v : Value) (t : Nat) : (a.put d v).tmps[t]? = if d = some t ∧ t < a.tmps.size then some v else a.tmps[t]? := by
  cases d with
  | none => simp [Act.put]
  | some d =>
    by_cases e : d = t
    · subst e
      by_cases hl : d < a.tmps.size
      · simp [Act.put, hl]
      · simp [Act.put, hl]
    · simp [Act.put, e]
theorem put_size (a : Act) (d : Option Tmp) (v : Value) : (a.put d v).tmps.size = a.tmps.size := by cases d <;> simp [Act.put]

theorem anc_in {Sp : List Nat} (hc : ∀ j ∈ Sp, ∀ e ∈ preds O j, e ∈ Sp) {j i : Nat} (hr : ∀ e ∈ preds O j, e ∈ Sp) (ha : anc O j i = true) : i ∈ Sp := (anc_reach ha).mem hc hr

/-- What was walked, with what was done ahead, is closed. -/
theorem walked_closed {S js0 free dn js : List Nat} (G : Seg O ops N S js0 free) (hs : js0 = dn ++ js) (hS : ∀ j ∈ S, ∀ e ∈ preds O j, e ∈ S) : ∀ j ∈ S ++ dn, ∀ e ∈ preds O j, e ∈ S ++ dn := by
  intro j hj e he
  rcases List.mem_append.1 hj with x | x
  · exact List.mem_append.2 (.inl (hS j x e he))
  · obtain ⟨p, q, rfl⟩ := List.append_of_mem x
    rcases G.edge p j (q ++ js) (by rw [hs]; simp) e he with y | y
    · exact List.mem_append.2 (.inl y)
    · exact List.mem_append.2 (.inr (by simp [y]))

theorem Env.putD' {N : Nat} {l : TL} {a : Act} (H : Env N l a) {d : Option Tmp} (hd : ∀ x, d = some x → x < N) (v : Value) : Env N (putD d v l) (a.put d v) := by
  cases d with
  | none => exact H
  | some x => exact H.put (hd x rfl) v

/-- An operation that is walked ahead of its time is booked. -/
theorem Inv.book {S js0 free Sp dn js : List Nat} {D : List DE} {j : Nat} {o : Oper} {v : Value} {ac ap : Act} (G : Seg O ops N S js0 free) (hSc : ∀ j ∈ S, ∀ e ∈ preds O j, e ∈ S)
    (I : Inv P F Q O ops N S js0 ds Sp D dn (j :: js) l ac ap) (ho : ops[j]? = some o) (hd : DOK P F Q ops ⟨j, o, v, ac⟩) :
    Inv P F Q O ops N S js0 ds Sp (⟨j, o, v, ac⟩ :: D) (dn ++ [j]) js (putD o.dst v l) (ac.put o.dst v) ap := by
  have hj0 : j ∈ js0 := by rw [I.spl]; simp
  have hnd : (dn ++ j :: js).Nodup := I.spl ▸ G.nd
  have hjdn : j ∉ dn := by
    intro x
    have := (List.nodup_append.1 hnd).2.2 j x j (by simp)
    exact this rfl
  have hDj : ∀ e ∈ D, e.i ≠ j := fun e he x => hjdn (x ▸ (I.dok e he).2.1)
  have hD0 : ∀ e ∈ D, e.i ∈ js0 := fun e he => by rw [I.spl]; exact List.mem_append.2 (.inl (I.dok e he).2.1)
  have hclosed := walked_closed G I.spl hSc
  -- whoever was walked does not hang on j
  have hnj : ∀ e ∈ D, anc O e.i j = false := fun e he => by
    cases ha : anc O e.i j with
    | false => rfl
    | true =>
      have := anc_in hclosed (hclosed e.i (List.mem_append.2 (.inr (I.dok e he).2.1))) ha
      rcases List.mem_append.1 this with x | x
      · exact absurd x (G.lt j hj0).2
      · exact absurd x hjdn
  have hdl : ∀ d, o.dst = some d → d < N := fun d hdd => (G.dst j hj0 o d ho hdd).1
  have huniq : ∀ d, o.dst = some d → ∀ e ∈ D, e.o.dst ≠ some d := fun d hdd e he => (G.dst j hj0 o d ho hdd).2.1 e.i (hD0 e he) e.o (I.dok e he).1.1 (hDj e he)
  refine ⟨I.env.putD' hdl v, I.size, ⟨I.def_.1, by rw [Act.put_defers]; exact I.def_.2⟩, fun e he => ?_, ?_, by rw [I.spl]; simp, fun i hi => ?_, fun i hi => I.jsn i (by simp [hi]), I.sub, fun i hi => ?_, I.clo, fun t => ?_, fun e he t ht => ?_⟩
  · rcases List.mem_cons.1 he with rfl | x
    · exact ⟨hd, by simp, I.jsn j (by simp)⟩
    · exact ⟨(I.dok e x).1, by simp [(I.dok e x).2.1], (I.dok e x).2.2⟩
  · simp only [List.map_cons, List.nodup_cons, List.mem_map]
    exact ⟨fun ⟨e, he, x⟩ => hDj e he x, I.dnd⟩
  · rcases List.mem_append.1 hi with x | x
    · rcases I.cov i x with y | ⟨e, he, y⟩
      · exact .inl y
      · exact .inr ⟨e, by simp [he], y⟩
    · simp at x; subst x
      exact .inr ⟨⟨i, o, v, ac⟩, List.mem_cons_self, rfl⟩
  · rcases I.sup i hi with x | x
    · exact .inl x
    · exact .inr (by simp [x])
  · by_cases hdt : o.dst = some t
    · refine .inl ⟨⟨j, o, v, ac⟩, List.mem_cons_self, hdt, ?_⟩
      rw [put_get, if_pos ⟨hdt, by rw [I.env.1]; exact hdl t hdt⟩]
    · rcases I.rel t with ⟨e, he, x, y⟩ | ⟨x, y⟩
      · exact .inl ⟨e, by simp [he], x, by rw [put_get, if_neg (by simp [hdt])]; exact y⟩
      · refine .inr ⟨fun e he => ?_, by rw [put_get, if_neg (by simp [hdt])]; exact y⟩
        rcases List.mem_cons.1 he with rfl | z
        · exact hdt
        · exact x e z
  · rcases List.mem_cons.1 he with rfl | x
    · simp only at ht ⊢
      rcases I.rel t with ⟨e, he, x, y⟩ | ⟨x, y⟩
      · refine .inl ⟨e, by simp [he], x, ?_, y⟩
        rcases (G.dst e.i (hD0 e he) e.o t (I.dok e he).1.1 x).2.2 j hj0 o ho ht with z | z
        · exact z
        · rw [hnj e he] at z; cases z
      · by_cases hdt : o.dst = some t
        · -- its own slot is looked at by itself: it would hang on itself
          rcases (G.dst j hj0 o t ho hdt).2.2 j hj0 o ho ht with z | z <;>
          · have := anc_in hclosed (fun e he => by
              rcases G.edge dn j js I.spl e he with u | u
              · exact List.mem_append.2 (.inl u)
              · exact List.mem_append.2 (.inr u)) z
            rcases List.mem_append.1 this with u | u
            · exact absurd u (G.lt j hj0).2
            · exact absurd u hjdn
        · refine .inr ⟨fun e' he' hx => ?_, y⟩
          rcases List.mem_cons.1 he' with rfl | z
          · exact absurd hx hdt
          · exact absurd hx (x e' z)
    · rcases I.snap e x t ht with ⟨e', he', y1, y2, y3⟩ | ⟨y1, y2⟩
      · exact .inl ⟨e', by simp [he'], y1, y2, y3⟩
      · refine .inr ⟨fun e' he' hx => ?_, y2⟩
        rcases List.mem_cons.1 he' with rfl | z
        · exact hnj e x
        · exact y1 e' z hx

/-- One that was booked is carried out. -/
theorem Inv.done {S js0 free Sp dn js : List Nat} {D : List DE} {e : DE} {ac ap : Act} (G : Seg O ops N S js0 free) (I : Inv P F Q O ops N S js0 ds Sp D dn js l ac ap) (he : e ∈ D) (hr : ∀ x ∈ preds O e.i, x ∈ Sp) :
    (∀ t ∈ e.o.looksAt ops, ap.tmps[t]? = e.a.tmps[t]?) ∧ Inv P F Q O ops N S js0 ds (e.i :: Sp) (D.filter fun x => x.i != e.i) dn js l ac (ap.put e.o.dst e.v) := by
  have hD0 : ∀ x ∈ D, x.i ∈ js0 := fun x hx => by rw [I.spl]; exact List.mem_append.2 (.inl (I.dok x hx).2.1)
  have hsame : ∀ x ∈ D, x.i = e.i → x = e := fun x hx hxe => by
    have := I.dnd
    refine Classical.byContradiction fun hne => ?_
    obtain ⟨p, q, rfl⟩ := List.append_of_mem he
    simp only [List.map_append, List.map_cons, List.nodup_append, List.nodup_cons, List.mem_map] at this
    rcases List.mem_append.1 hx with y | y
    · exact this.2.2 x.i ⟨x, y, rfl⟩ e.i (by simp) hxe
    · rcases List.mem_cons.1 y with z | z
      · exact hne z
      · exact this.2.1.1 ⟨x, z, hxe⟩
  have hag : ∀ t ∈ e.o.looksAt ops, ap.tmps[t]? = e.a.tmps[t]? := fun t ht => by
    rcases I.snap e he t ht with ⟨e', he', _, y2, _⟩ | ⟨_, y⟩
    · exact absurd (anc_in I.clo hr y2) (I.dok e' he').2.2
    · exact y
  have hmem : ∀ x, x ∈ D.filter (fun x => x.i != e.i) ↔ x ∈ D ∧ x.i ≠ e.i := fun x => by simp
  have heo := (I.dok e he).1.1
  have hdl : ∀ d, e.o.dst = some d → d < N := fun d hdd => (G.dst e.i (hD0 e he) e.o d heo hdd).1
  have huniq : ∀ d, e.o.dst = some d → ∀ x ∈ D, x.i ≠ e.i → x.o.dst ≠ some d := fun d hdd x hx hxe => (G.dst e.i (hD0 e he) e.o d heo hdd).2.1 x.i (hD0 x hx) x.o (I.dok x hx).1.1 hxe
  refine ⟨hag, I.env, by rw [put_size]; exact I.size, ⟨by rw [Act.put_defers]; exact I.def_.1, I.def_.2⟩, fun x hx => ?_, ?_, I.spl, fun i hi => ?_, fun i hi hc => ?_, fun i hi => by simp [I.sub i hi], fun i hi => ?_, fun j hj x hx => ?_, fun t => ?_, fun x hx t ht => ?_⟩
  · obtain ⟨h1, h2⟩ := (hmem x).1 hx
    refine ⟨(I.dok x h1).1, (I.dok x h1).2.1, fun hc => ?_⟩
    rcases List.mem_cons.1 hc with y | y
    · exact h2 y
    · exact (I.dok x h1).2.2 y
  · exact (List.filter_sublist.map DE.i).nodup I.dnd
  · rcases I.cov i hi with x | ⟨x, hx, rfl⟩
    · exact .inl (by simp [x])
    · by_cases hxe : x.i = e.i
      · exact .inl (by simp [hxe])
      · exact .inr ⟨x, (hmem x).2 ⟨hx, hxe⟩, rfl⟩
  · rcases List.mem_cons.1 hc with y | y
    · have hnd : (dn ++ js).Nodup := I.spl ▸ G.nd
      exact (List.nodup_append.1 hnd).2.2 e.i (I.dok e he).2.1 i hi y.symm
    · exact I.jsn i hi y
  · rcases List.mem_cons.1 hi with y | y
    · subst y; exact .inr (I.dok e he).2.1
    · exact I.sup i y
  · rcases List.mem_cons.1 hj with y | y
    · subst y; exact List.mem_cons_of_mem _ (hr x hx)
    · exact List.mem_cons_of_mem _ (I.clo j y x hx)
  · by_cases hdt : e.o.dst = some t
    · refine .inr ⟨fun x hx => ?_, ?_⟩
      · obtain ⟨h1, h2⟩ := (hmem x).1 hx
        exact huniq t hdt x h1 h2
      · rw [put_get, if_pos ⟨hdt, by rw [I.size]; exact hdl t hdt⟩]
        rcases I.rel t with ⟨x, hx, y, z⟩ | ⟨x, _⟩
        · have : x = e := by
            refine hsame x hx (Classical.byContradiction fun hne => ?_)
            exact huniq t hdt x hx hne y
          subst this; exact z.symm
        · exact absurd hdt (x e he)
    · rcases I.rel t with ⟨x, hx, y, z⟩ | ⟨x, y⟩
      · refine .inl ⟨x, (hmem x).2 ⟨hx, fun hxe => ?_⟩, y, z⟩
        have := hsame x hx hxe; subst this; exact hdt y
      · exact .inr ⟨fun x' hx' => x x' ((hmem x').1 hx').1, by rw [put_get, if_neg (by simp [hdt])]; exact y⟩
  · obtain ⟨h1, h2⟩ := (hmem x).1 hx
    by_cases hdt : e.o.dst = some t
    · refine .inr ⟨fun e' he' hx' => ?_, ?_⟩
      · obtain ⟨g1, g2⟩ := (hmem e').1 he'
        exact absurd hx' (huniq t hdt e' g1 g2)
      · rw [put_get, if_pos ⟨hdt, by rw [I.size]; exact hdl t hdt⟩]
        rcases I.snap x h1 t ht with ⟨e', he', y1, _, y3⟩ | ⟨y1, _⟩
        · have : e' = e := by
            refine hsame e' he' (Classical.byContradiction fun hne => ?_)
            exact huniq t hdt e' he' hne y1
          subst this; exact y3.symm
        · -- x looks at what e writes, and does not hang on it: then e hangs on x
          have hna := y1 e he hdt
          rcases (G.dst e.i (hD0 e he) e.o t heo hdt).2.2 x.i (hD0 x h1) x.o (I.dok x h1).1.1 ht with z | z
          · rw [hna] at z; cases z
          · exact absurd (anc_in I.clo hr z) (I.dok x h1).2.2
    · rcases I.snap x h1 t ht with ⟨e', he', y1, y2, y3⟩ | ⟨y1, y2⟩
      · refine .inl ⟨e', (hmem e').2 ⟨he', fun hxe => ?_⟩, y1, y2, y3⟩
        have := hsame e' he' hxe; subst this; exact hdt y1
      · exact .inr ⟨fun e' he' hx' => y1 e' ((hmem e').1 he').1 hx', by rw [put_get, if_neg (by simp [hdt])]; exact y2⟩
end Go.BL
