/- A frame at work, its slots as a list of what is known of them (UR); moves of control; operations (OPU); regions in the text's order. -/
import Derived.Test.YtnfcoikbkmhggaaGreatRun
import Derived.Calls
set_option linter.all false
set_option linter.unusedVariables false
set_option linter.unusedSimpArgs false
namespace Go.BL

/-- What is known of a frame's slots; the first word counts. -/
abbrev TL := List (Nat × Value)
def lk : TL → Nat → Option Value
  | [], _ => none
  | (t, v) :: l, n => if Nat.beq n t then some v else lk l n
def ev (l : TL) : Operand → Option Value
  | .tmp t => lk l t
  | .const v => some v
  | .global g => some (.pointer (some ⟨g, 0, none⟩))
  | .func f => some (.func (.func f) #[] #[])

/-- The list tells the truth of the slots, of which there are N. -/
def Env (N : Nat) (l : TL) (a : Act) : Prop := a.tmps.size = N ∧ ∀ t v, lk l t = some v → a.tmps[t]? = some v

theorem Env.ev {N : Nat} {l : TL} {a : Act} (H : Env N l a) {x : Operand} {v : Value} (h : ev l x = some v) : a.eval x = v := by
  cases x with
  | tmp t =>
    have := H.2 t v h
    simp [Act.eval, Array.getD, (Array.getElem?_eq_some_iff.1 this).1, (Array.getElem?_eq_some_iff.1 this).2]
  | const c => simpa [BL.ev, Act.eval] using h
  | global g => simpa [BL.ev, Act.eval] using h
  | func f => simpa [BL.ev, Act.eval] using h

theorem Env.put {N : Nat} {l : TL} {a : Act} (H : Env N l a) {d : Nat} (hd : d < N) (v : Value) : Env N ((d, v) :: l) (a.put (some d) v) := by
  refine ⟨by simp [Act.put, H.1], fun t u h => ?_⟩
  simp only [Act.put]
  unfold lk at h
  by_cases e : Nat.beq t d = true
  · have e' := Nat.eq_of_beq_eq_true e
    subst e'
    simp only [e, if_true, Option.some.injEq] at h
    subst h
    simp [H.1, hd]
  · simp only [e, Bool.false_eq_true, if_false] at h
    have e' : t ≠ d := fun x => e (by subst x; exact Nat.beq_refl t)
    simpa [e'.symm] using H.2 t u h

theorem Env.sub {N : Nat} {l l' : TL} {a : Act} (H : Env N l a) (hs : ∀ t v, lk l' t = some v → lk l t = some v) : Env N l' a :=
  ⟨H.1, fun t v h => H.2 t v (hs t v h)⟩

/-- A list is borne by another one. -/
def subE (l : TL) : TL → Prop
  | [] => True
  | (t, v) :: l' => lk l t = some v ∧ subE l l'
theorem subE.lk {l : TL} : ∀ {l' : TL}, subE l l' → ∀ t v, BL.lk l' t = some v → BL.lk l t = some v
  | [], _, _, _, h => by cases h
  | (s, u) :: l', H, t, v, h => by
    unfold BL.lk at h
    by_cases e : Nat.beq t s = true
    · simp only [e, if_true, Option.some.injEq] at h
      have := Nat.eq_of_beq_eq_true e
      subst this; subst h; exact H.1
    · simp only [e, Bool.false_eq_true, if_false] at h
      exact subE.lk H.2 t v h

/-- Where a walk stands: the program, the goroutine's kind, what nobody turns, the stop, the callers, the frame's own marks, how many slots. -/
structure Ctx where
  main : Bool
  Stop : StopT
  cs : List Frame
  b : Frame

def fat (b : Frame) (a : Act) (todo : List Item) : Frame := { b with tmps := a.tmps, defers := a.defers, todo := todo, mode := .run }
def Ctx.run (P : Program) (F : Hp) (C : Ctx) (a : Act) (todo : List Item) (h : Hp) : Prop := Run P C.main F C.Stop (fat C.b a todo) C.cs h

/-- From here on, with these slots, the run comes to its stop. -/
def UR (P : Program) (F : Hp) (N : Nat) (C : Ctx) (todo : List Item) (l : TL) (ds : List Deferred) (h : Hp) : Prop :=
  ∀ a, Env N l a → a.defers = ds → C.run P F a todo h

variable {P : Program} {F : Hp} {N : Nat} {C : Ctx} {k : List Item} {l : TL} {ds : List Deferred} {h : Hp}

theorem eval_fat (b : Frame) (a : Act) (todo : List Item) : (fat b a todo).eval = a.eval := funext fun x => by cases x <;> rfl

theorem UR.quiet {todo todo' : List Item} (hs : ∀ a w, Env N l a → a.defers = ds → StepTo P C.main (fat C.b a todo) C.cs w (fat C.b a todo') C.cs w #[]) (H : UR P F N C todo' l ds h) : UR P F N C todo l ds h :=
  fun a e d => Run.quiet (hs a · e d) (H a e d)

theorem ur_sub {l' : TL} (hs : subE l l') (H : UR P F N C k l' ds h) : UR P F N C k l ds h := fun a e d => H a (e.sub hs.lk) d

theorem ur_skip (H : UR P F N C k l ds h) : UR P F N C (.code .skip :: k) l ds h := H.quiet fun a w _ _ => by simp [StepTo, stepG, stepG.exec, fat]
theorem ur_label {n : Nat} (H : UR P F N C k l ds h) : UR P F N C (.code (.label n) :: k) l ds h := H.quiet fun a w _ _ => by simp [StepTo, stepG, stepG.exec, fat]
theorem ur_inBlock {n : Nat} (H : UR P F N C k l ds h) : UR P F N C (.inBlock n :: k) l ds h := H.quiet fun a w _ _ => by simp [StepTo, stepG, stepG.exec, fat]
theorem ur_inScope {c : Code} (H : UR P F N C k l ds h) : UR P F N C (.inScope c :: k) l ds h := H.quiet fun a w _ _ => by simp [StepTo, stepG, stepG.exec, fat]
theorem ur_seq {x y : Code} (H : UR P F N C (.code x :: .code y :: k) l ds h) : UR P F N C (.code (.seq x y) :: k) l ds h := H.quiet fun a w _ _ => by simp [StepTo, stepG, stepG.exec, fat]
theorem ur_block {n : Nat} {x : Code} (H : UR P F N C (.code x :: .inBlock n :: k) l ds h) : UR P F N C (.code (.block n x) :: k) l ds h := H.quiet fun a w _ _ => by simp [StepTo, stepG, stepG.exec, fat]
theorem ur_scope {x : Code} (H : UR P F N C (.code x :: .inScope x :: k) l ds h) : UR P F N C (.code (.scope x) :: k) l ds h := H.quiet fun a w _ _ => by simp [StepTo, stepG, stepG.exec, fat]
theorem ur_loop {x : Code} (H : UR P F N C (.code x :: .inLoop x :: k) l ds h) : UR P F N C (.code (.loop x) :: k) l ds h := H.quiet fun a w _ _ => by simp [StepTo, stepG, stepG.exec, fat]
theorem ur_inLoop {x : Code} (H : UR P F N C (.code x :: .inLoop x :: k) l ds h) : UR P F N C (.inLoop x :: k) l ds h := H.quiet fun a w _ _ => by simp [StepTo, stepG, stepG.exec, fat]
/-- A loop: what holds at each round's head, with a number that falls. -/
theorem ur_loop_inv {x : Code} (I : Nat → TL → Hp → Prop) {n : Nat} (h0 : I n l h)
    (H : ∀ n, (∀ m l h, m < n → I m l h → UR P F N C (.inLoop x :: k) l ds h) → ∀ l h, I n l h → UR P F N C (.code x :: .inLoop x :: k) l ds h) : UR P F N C (.code (.loop x) :: k) l ds h := by
  have key : ∀ n l h, I n l h → UR P F N C (.code x :: .inLoop x :: k) l ds h := by
    intro n
    induction n using Nat.strongRecOn with
    | ind n ih => exact fun l h hi => H n (fun m l h hm hi => ur_inLoop (ih m hm l h hi)) l h hi
  exact ur_loop (key n l h h0)
theorem ur_exit {n : Nat} {k' : List Item} (hx : exitTo n k = some k') (H : UR P F N C k' l ds h) : UR P F N C (.code (.exit n) :: k) l ds h :=
  H.quiet fun a w _ _ => by simp [StepTo, stepG, stepG.exec, fat, hx]
theorem ur_cond {c : Operand} {x y : Code} {t : Bool} (hc : ev l c = some (.bool t)) (H1 : t = true → UR P F N C (.code x :: k) l ds h) (H2 : t = false → UR P F N C (.code y :: k) l ds h) : UR P F N C (.code (.cond c x y) :: k) l ds h := by
  have hs : UR P F N C (.code (if t then x else y) :: k) l ds h := by cases t <;> simp_all
  refine hs.quiet fun a w e _ => ?_
  have hv := e.ev hc
  have hf := eval_fat C.b a (.code (.cond c x y) :: k)
  simp only [fat] at hf
  simp [StepTo, stepG, stepG.exec, fat, hf, hv]

/-- A call: wherever it is made from, if its return serves, the run goes on. -/
def Leaving (P : Program) (F : Hp) (v : Value) (fr : Frame) (h : Hp) : Prop :=
  fr.mode = .returning ∧ fr.defers = [] ∧ fr.kind = .normal ∧ ∃ fn, P.funcs[fr.fn]? = some fn ∧ SemS P F h (results fn fr.tmps) fun v' h' => v' = v ∧ h' = h
def CallS (P : Program) (F : Hp) (f : FuncId) (args : Array Value) (h : Hp) (R : Value → Hp → Prop) : Prop :=
  ∀ main Stop cs, (∀ v fr h', Leaving P F v fr h' → fr.fn = f → R v h' → Run P main F Stop fr cs h') → Run P main F Stop (Frame.enter P f args .normal) cs h

theorem CallS.mono {f : FuncId} {args : Array Value} {R R' : Value → Hp → Prop} (H : CallS P F f args h R) (hr : ∀ v h', R v h' → R' v h') : CallS P F f args h R' :=
  fun main Stop cs k => H main Stop cs fun v fr h' a b c => k v fr h' a b (hr v h' c)

/-- The return into a caller. -/
theorem run_return {main : Bool} {Stop : StopT} {v : Value} {fr c : Frame} {cs : List Frame} (hl : Leaving P F v fr h) (H : Run P main F Stop (c.finish v) cs h) : Run P main F Stop fr (c :: cs) h := by
  obtain ⟨hm, hd, hk, fn, hf, hr⟩ := hl
  refine Run.step fun w f => ?_
  obtain ⟨v', w', h', es, r, g, rfl, rfl⟩ := hr w f
  have r0 := r #[]
  simp only [Array.empty_append] at r0
  have r1 : (results fn fr.tmps).run P w = .ok v' w' := by rw [← Sem.runT_fst P _ w #[], r0]
  have r2 : (results fn fr.tmps).events P w #[] = es := by unfold Sem.events; rw [r0]
  refine ⟨_, cs, h', w', seen P fr.fn es, ?_, ?_, H⟩
  · simp [StepTo, stepG, unwind, hm, hd, hf, r1, r2, doReturn, hk, GStep.after]
  · exact g.less fun e he => mem_seen he

/-- A round of a range over a function, wherever yield was called. -/
def RoundS (P : Program) (F : Hp) (lb : Nat) (f : FuncId) (tmps : Array Value) (asg bd : Code) (h : Hp) (R : Value → Hp → Prop) : Prop :=
  ∀ main Stop c cs, (∀ v h', R v h' → Run P main F Stop (c.finish v) cs h') → Run P main F Stop (Frame.round lb f tmps asg bd .normal) (c :: cs) h

def NextK (P : Program) (F : Hp) : Next → Hp → (Value → Hp → Prop) → Prop
  | .value v, h, K => K v h
  | .skip, h, K => K undef h
  | .enter f args, h, K => CallS P F f args h K
  | .round lb f tmps asg bd, h, K => RoundS P F lb f tmps asg bd h K
  | _, _, _ => False

/-- What an operation does, its operands as the list tells. -/
def OPV (P : Program) (F : Hp) (N : Nat) (o : Oper) (l : TL) (h : Hp) (K : Value → Hp → Prop) : Prop :=
  ∃ s, (∀ a, Env N l a → execOp a.eval o = s) ∧ SemS P F h s fun nx h' => NextK P F nx h' K


theorem finish_fat (b : Frame) (a : Act) (ops : Array Oper) (i : Nat) (rest : List Nat) (k : List Item) (v : Value) :
    (fat b a (.inRegion ops (i :: rest) :: k)).finish v = fat b (a.put ((ops[i]?).bind (·.dst)) v) (.inRegion ops rest :: k) := by
  cases h : (ops[i]?).bind (·.dst) <;> simp [Frame.finish, fat, Act.put, h]

theorem stepG_fat {main : Bool} {b : Frame} {a : Act} {ops : Array Oper} {i : Nat} {is : List Nat} {k : List Item} {cs : List Frame} {o : Oper} {w : World}
    (ho : ops[i]? = some o) (hw : Region.wanted o (yielded ops a.tmps) = true) (hnd : ∀ c, o.op ≠ .defer c) :
    stepG P main { frame := fat b a (.inRegion ops (i :: is) :: k), callers := cs, status := .running, dying := none } w =
      stepG.apply P true (fat b a (.inRegion ops (i :: is) :: k)) cs none (execOp a.eval o) w := by
  have hev := eval_fat b a (.inRegion ops (i :: is) :: k)
  simp only [fat] at hev
  simp only [stepG, stepG.exec, stepG.oper, Frame.oper?, fat, ho, hw, hev, Option.map_some, Option.getD_some, if_true]
  cases b.roundOf with
  | none => rfl
  | some r =>
    cases hop : o.op <;> first | rfl | exact absurd hop (hnd _)

theorem apply_value {fr : Frame} {cs : List Frame} {s : Sem Next} {w w' : World} {v : Value} {es : Array Event}
    (hr : s.runT P w #[] = (.ok (.value v) w', es)) : ∃ es', (∀ e ∈ es', e ∈ es) ∧ stepG.apply P true fr cs none s w = .go { frame := fr.finish v, callers := cs, status := .running, dying := none } w' es' := by
  refine ⟨seen P fr.fn (if fr.kind == .early then #[] else es) ++ #[], fun e he => ?_, ?_⟩
  · simp only [Array.append_empty] at he
    have := mem_seen he
    split at this
    · simp at this
    · exact this
  · simp only [stepG.apply, if_true, hr, GStep.after]
theorem apply_skip {fr : Frame} {cs : List Frame} {s : Sem Next} {w w' : World} {es : Array Event}
    (hr : s.runT P w #[] = (.ok .skip w', es)) : ∃ es', (∀ e ∈ es', e ∈ es) ∧ stepG.apply P true fr cs none s w = .go { frame := fr.finish undef, callers := cs, status := .running, dying := none } w' es' := by
  refine ⟨seen P fr.fn (if fr.kind == .early then #[] else es) ++ #[], fun e he => ?_, ?_⟩
  · simp only [Array.append_empty] at he
    have := mem_seen he
    split at this
    · simp at this
    · exact this
  · simp only [stepG.apply, if_true, hr, GStep.after]
theorem apply_enter {fr : Frame} {cs : List Frame} {s : Sem Next} {w w' : World} {f : FuncId} {args : Array Value} {es : Array Event}
    (hr : s.runT P w #[] = (.ok (.enter f args) w', es)) (hk : ∀ d r s k, fr.todo ≠ .call d true r s :: k) :
    ∃ es', (∀ e ∈ es', e ∈ es) ∧ stepG.apply P true fr cs none s w = .go { frame := Frame.enter P f args .normal, callers := fr :: cs, status := .running, dying := none } w' es' := by
  refine ⟨seen P fr.fn (if fr.kind == .early then #[] else es) ++ #[], fun e he => ?_, ?_⟩
  · simp only [Array.append_empty] at he
    have := mem_seen he
    split at this
    · simp at this
    · exact this
  · simp only [stepG.apply, if_true, hr, GStep.after]

theorem apply_round {fr : Frame} {cs : List Frame} {s : Sem Next} {w w' : World} {lb : Nat} {f : FuncId} {tmps : Array Value} {asg bd : Code} {es : Array Event}
    (hr : s.runT P w #[] = (.ok (.round lb f tmps asg bd) w', es)) :
    ∃ es', (∀ e ∈ es', e ∈ es) ∧ stepG.apply P true fr cs none s w = .go { frame := Frame.round lb f tmps asg bd .normal, callers := fr :: cs, status := .running, dying := none } w' es' := by
  refine ⟨seen P fr.fn (if fr.kind == .early then #[] else es) ++ #[], fun e he => ?_, ?_⟩
  · simp only [Array.append_empty] at he
    have := mem_seen he
    split at this
    · simp at this
    · exact this
  · simp only [stepG.apply, if_true, hr, GStep.after]

/-- An entry that is carried out in a frame whose head of work waits for its value. -/
theorem run_apply {main : Bool} {Stop : StopT} {fr : Frame} {cs : List Frame} {s : Sem Next} {K : Value → Hp → Prop}
    (hst : ∀ w, stepG P main { frame := fr, callers := cs, status := .running, dying := none } w = stepG.apply P true fr cs none s w)
    (hk : ∀ d r s k, fr.todo ≠ .call d true r s :: k)
    (H : SemS P F h s fun nx h' => NextK P F nx h' K) (hK : ∀ v h', K v h' → Run P main F Stop (fr.finish v) cs h') : Run P main F Stop fr cs h := by
  refine Run.step fun w f => ?_
  obtain ⟨nx, w', h', es, r, g, K1⟩ := H w f
  have r0 := r #[]
  simp only [Array.empty_append] at r0
  unfold StepTo
  rw [hst w]
  cases nx <;> first | exact K1.elim | skip
  case value v =>
    obtain ⟨es', hsub, hap⟩ := apply_value (fr := fr) (cs := cs) r0
    exact ⟨_, _, h', w', es', hap, g.less hsub, hK _ _ K1⟩
  case skip =>
    obtain ⟨es', hsub, hap⟩ := apply_skip (fr := fr) (cs := cs) r0
    exact ⟨_, _, h', w', es', hap, g.less hsub, hK _ _ K1⟩
  case enter f args =>
    obtain ⟨es', hsub, hap⟩ := apply_enter (fr := fr) (cs := cs) r0 hk
    exact ⟨_, _, h', w', es', hap, g.less hsub, K1 main Stop (fr :: cs) fun v fr' h'' hl _ hR => run_return hl (hK v h'' hR)⟩
  case round lb f tmps asg bd =>
    obtain ⟨es', hsub, hap⟩ := apply_round (fr := fr) (cs := cs) r0
    exact ⟨_, _, h', w', es', hap, g.less hsub, K1 main Stop fr cs fun v h'' hR => hK v h'' hR⟩

theorem Act.put_put {a : Act} {d : Nat} {v : Value} : (a.put (some d) v).defers = a.defers := rfl
theorem Act.put_defers {a : Act} {d : Option Tmp} {v : Value} : (a.put d v).defers = a.defers := by cases d <;> rfl

/-- One operation, by what it does. -/
theorem run_op {ops : Array Oper} {i : Nat} {is : List Nat} {o : Oper} {a : Act} {K : Value → Hp → Prop} (ho : ops[i]? = some o) (hw : Region.wanted o (yielded ops a.tmps) = true) (hnd : ∀ c, o.op ≠ .defer c)
    (he : Env N l a) (H : OPV P F N o l h K) (hk : ∀ v h', K v h' → C.run P F (a.put o.dst v) (.inRegion ops is :: k) h') : C.run P F a (.inRegion ops (i :: is) :: k) h := by
  obtain ⟨s, hs, H⟩ := H
  have hs := hs a he
  have hfin := finish_fat C.b a ops i is k
  simp only [ho, Option.bind_some] at hfin
  refine run_apply (s := s) (fun w => by rw [stepG_fat ho hw hnd, hs]) (fun _ _ _ _ e => by simp [fat] at e) H fun v h' hK => ?_
  rw [hfin]
  exact hk v h' hK

/-- Is an operation no defer statement? -/
def noDefer : Op → Bool
  | .defer _ => false
  | _ => true
theorem noDefer.ne {op : Op} (h : noDefer op = true) : ∀ c, op ≠ .defer c := by
  intro c e; subst e; cases h

/-- An operation without a guard, whose value goes to a slot. -/
theorem ur_op {ops : Array Oper} {i d : Nat} {is : List Nat} {o : Oper} (ho : ops[i]? = some o) (hg : o.guard = none) (hd : o.dst = some d) (hN : Nat.blt d N = true) (hn : noDefer o.op = true)
    (H : OPV P F N o l h fun v h' => UR P F N C (.inRegion ops is :: k) ((d, v) :: l) ds h') : UR P F N C (.inRegion ops (i :: is) :: k) l ds h := by
  intro a e hds
  refine run_op ho (by simp [Region.wanted, hg]) (noDefer.ne hn) e H fun v h' hK => ?_
  rw [hd]
  exact hK _ (e.put (by simpa [Nat.blt_eq] using hN) v) hds
/-- The same without a slot. -/
theorem ur_op0 {ops : Array Oper} {i : Nat} {is : List Nat} {o : Oper} (ho : ops[i]? = some o) (hg : o.guard = none) (hd : o.dst = none) (hn : noDefer o.op = true)
    (H : OPV P F N o l h fun _ h' => UR P F N C (.inRegion ops is :: k) l ds h') : UR P F N C (.inRegion ops (i :: is) :: k) l ds h := by
  intro a e hds
  refine run_op ho (by simp [Region.wanted, hg]) (noDefer.ne hn) e H fun v h' hK => ?_
  rw [hd]
  exact hK _ e hds
/-- A region in the text's order. -/
theorem ur_region {n : Nat} {ops : Array Oper} {is : List Nat} (hr : List.range ops.size = is) (H : UR P F N C (.inRegion ops is :: k) l ds h) : UR P F N C (.code (.region n ops false) :: k) l ds h := by
  subst hr
  exact H.quiet fun a w _ _ => by simp [StepTo, stepG, stepG.exec, fat]
theorem ur_region_end {ops : Array Oper} (H : UR P F N C k l ds h) : UR P F N C (.inRegion ops [] :: k) l ds h := H.quiet fun a w _ _ => by simp [StepTo, stepG, stepG.exec, fat]

end Go.BL
