/- Ranging over a function: the statement, its rounds, their ends; and the return of a function that has ranged. -/
import Derived.Test.YtnfcoikbkmhggaaGreatAppend
set_option linter.all false
set_option linter.unusedVariables false
set_option linter.unusedSimpArgs false
namespace Go.BL
variable {P : Program} {F h : Hp} {N : Nat} {l : TL} {C : Ctx} {k : List Item} {ds : List Deferred}

theorem still_callFunc {f : FuncId} {args : Array Value} (hb : HasBody P f) : ∀ w es, (callFunc f args).runT P w es = (.ok (.enter f args) w, es) := by
  obtain ⟨fn, hf, hn, hb⟩ := hb.b
  intro w es
  unfold callFunc
  show Sem.runT P (Sem.bind Go.program _) w es = _
  rw [Sem.runT_bind']
  simp only [Go.program, Sem.runT, hf, hn, hb]
  rfl

/-- What a round's beginning finds, and its end leaves. -/
abbrev loopO (st : LoopState) (pd : Option Code) (f : FuncId) (tmps : Array Value) (ps : Array Tmp) (asg bd : Code) (db : Nat) : Obj :=
  .loop { state := st, pending := pd, fn := f, tmps := tmps, params := ps, assign := asg, body := bd, defers := db }

/-- The calls that yield is: of any function value, with these arguments. -/
def YieldS (P : Program) (F : Hp) (y : Value) (vs : List Value) (h : Hp) (K : Value → Hp → Prop) : Prop :=
  ∀ (N : Nat) (l : TL) (o : Oper) (x : Operand) (xs : Array Operand) (ts : Array TypeId), o.op = .call { callee := .value x, args := xs, argTypes := ts } → ev l x = some y → evs l xs.toList = some vs → OPV P F N o l h K
/-- Yield's contract: from A it hands back b and leaves B b, whatever else there is. -/
def Ys (P : Program) (F : Hp) (y : Value) (v : Value) (A : HProp) (B : Bool → HProp) : Prop :=
  ∀ (L : List HProp) (h : Hp), Own (A :: L) h → YieldS P F y [v] h fun r h' => ∃ b, r = .bool b ∧ Own (B b :: L) h'
theorem opv_yield {o : Oper} {x : Operand} {xs : Array Operand} {ts : Array TypeId} {y v : Value} {A : HProp} {B : Bool → HProp} {L L' : List HProp} {K : Value → Hp → Prop} (hy : Ys P F y v A B) (H : Own L h) (is : List Nat) [t : TakeLs is L [A] L']
    (hop : o.op = .call { callee := .value x, args := xs, argTypes := ts }) (hf : ev l x = some y) (hx : evs l xs.toList = some [v]) (hk : ∀ b h', Own (B b :: L') h' → K (.bool b) h') : OPV P F N o l h K := by
  obtain ⟨s, hs, HS⟩ := hy L' h (by have := Own.perm t.p H; simpa using this) N l o x xs ts hop hf hx
  refine ⟨s, hs, HS.mono fun nx h' hn => ?_⟩
  have up : ∀ v h', (∃ b, v = Value.bool b ∧ Own (B b :: L') h') → K v h' := by
    rintro v h' ⟨b, rfl, o⟩
    exact hk b h' o
  cases nx <;> first | exact hn.elim | skip
  case value v => exact up _ _ hn
  case skip => exact up _ _ hn
  case enter f args => exact CallS.mono hn up
  case round a b c d e => exact fun main Stop c cs hr => hn main Stop c cs fun v h' q => hr v h' (up v h' q)

/-- The loop's yield, by its round. -/
theorem yield_round {lb db : Nat} {f : FuncId} {tmps : Array Value} {p : Tmp} {asg bd : Code} {v : Value} {K : Value → Hp → Prop} {L : List HProp} (H : Own L h) [i : Has L lb (loopO .ready none f tmps #[p] asg bd db)]
    (hr : RoundS P F lb f (tmps.setIfInBounds p v) asg bd h K) : YieldS P F (.func (.yield lb) #[] #[]) [v] h K := by
  intro N l o x xs ts hop hf hx
  refine ⟨Instr.yield lb #[v], fun a e => ?_, ?_⟩
  · simp only [execOp, hop, resolve, e.ev hf, e.evsA hx, Deferred.ofValue]
    show invoke (Target.fn (.yield lb) #[]) (#[] ++ [v].toArray) = _
    simp [invoke]
  · unfold Instr.yield Instr.getLoop
    refine .bind' (.bind' (.getObj (.inl (i.has H)) (fun _ _ _ e => by cases e) rfl (.pure' ?_)))
    simp only [List.size_toArray, List.length_cons, List.length_nil]
    refine .pure' ?_
    simpa [NextK] using hr

/-- The frame is a round's. -/
structure Rnd (P : Program) (F : Hp) (C : Ctx) (lb : Nat) (R : Value → Hp → Prop) : Prop where
  kind : C.b.kind = .normal
  ro : C.b.roundOf = some lb
  ret : ∃ c cs, C.cs = c :: cs ∧ ∀ v h', R v h' → Run P C.main F C.Stop (c.finish v) cs h'

/-- A round's walk: its parameter is laid; then the assignment; the record; the body. -/
theorem roundS_intro {lb : Nat} {f : FuncId} {tmps : Array Value} {asg bd : Code} {R : Value → Hp → Prop} {l : TL} (he : Env N l { tmps := tmps, defers := [] })
    (H : ∀ C, Rnd P F C lb R → C.b.fn = f → UR P F N C [.code asg, .beginRound, .code bd] l [] h) : RoundS P F lb f tmps asg bd h R := by
  intro main Stop c cs hk
  have := H ⟨main, Stop, c :: cs, { (default : Frame) with fn := f, kind := .normal, roundOf := some lb }⟩ ⟨rfl, rfl, c, cs, rfl, hk⟩ rfl { tmps := tmps, defers := [] } he rfl
  exact this

theorem ur_beginRound {lb db : Nat} {f : FuncId} {tmps : Array Value} {ps : Array Tmp} {asg bd : Code} {pd : Option Code} {R : Value → Hp → Prop} {L L' : List HProp} (G : Rnd P F C lb R) (H : Own L h) [u : Upd L lb (loopO .ready pd f tmps ps asg bd db) (loopO .busy pd f tmps ps asg bd db) L']
    (hk : ∀ h', Own L' h' → UR P F N C k l ds h') : UR P F N C (.beginRound :: k) l ds h := by
  intro a e d
  refine run_apply (s := do C.b.roundOf.elim (stuck "beginRound: no round") Instr.beginRound; pure .skip) (K := fun _ h' => Own L' h') (fun w => ?_) (fun _ _ _ _ e => by simp [fat] at e) ?_ fun v h' hK => ?_
  · simp [stepG, stepG.exec, fat]
  · rw [G.ro]
    simp only [Option.elim]
    unfold Instr.beginRound Instr.getLoop
    obtain ⟨hb, ho⟩ := u.upd H
    refine .bind' (.bind' (.bind' (.getObj (.inl hb) (fun _ _ _ e => by cases e) rfl (.pure' ?_))))
    refine .bind' (.setObj hb (fun _ _ _ e => by cases e) rfl ?_)
    exact .pure' (.pure' ho)
  · have : (fat C.b a (.beginRound :: k)).finish v = fat C.b a k := by simp [Frame.finish, fat]
    rw [this]
    exact hk h' hK a e d

/-- A round's end, a return or a leap out of it. -/
theorem run_roundEnd {lb db : Nat} {f : FuncId} {tmps : Array Value} {ps : Array Tmp} {asg bd : Code} {pd : Option Code} {R : Value → Hp → Prop} {L L' : List HProp} {todo : List Item} (jump : Option Code) (G : Rnd P F C lb R) (H : Own L h)
    [u : Upd L lb (loopO .busy pd f tmps ps asg bd db) (loopO (if jump.isNone then .ready else .done) jump f tmps ps asg bd db) L']
    (ht : (todo = [] ∧ jump = none) ∨ (∃ k, todo = .code .ret :: k ∧ jump = some .ret) ∨ ∃ n k, todo = .code (.exit n) :: k ∧ exitTo n k = none ∧ jump = some (.exit n))
    (hk : ∀ h', Own L' h' → R (.bool jump.isNone) h') : UR P F N C todo l ds h := by
  intro a e d
  obtain ⟨c, cs, hcs, hret⟩ := G.ret
  unfold Ctx.run
  rw [hcs]
  obtain ⟨hb, ho⟩ := u.upd H
  have HS : SemS P F h (Instr.endRound lb jump) fun v h' => v = .bool jump.isNone ∧ Own L' h' := by
    unfold Instr.endRound Instr.getLoop
    refine .bind' (.bind' (.getObj (.inl hb) (fun _ _ _ e => by cases e) rfl (.pure' ?_)))
    exact .bind' (.setObj hb (fun _ _ _ e => by cases e) rfl (.pure' ⟨rfl, ho⟩))
  refine Run.step fun w fw => ?_
  obtain ⟨v, w', h', es, r, g, rfl, o⟩ := HS w fw
  have r0 := r #[]
  simp only [Array.empty_append] at r0
  refine ⟨_, cs, h', w', seen P C.b.fn es, ?_, g.less fun e he => mem_seen he, hret _ h' (hk h' o)⟩
  have hro := G.ro
  have hkd := G.kind
  have r1 : (Instr.endRound lb jump).run P w = .ok (.bool jump.isNone) w' := by rw [← Sem.runT_fst P _ w #[], r0]
  have r2 : (Instr.endRound lb jump).events P w #[] = es := by unfold Sem.events; rw [r0]
  rcases ht with ⟨rfl, rfl⟩ | ⟨k, rfl, rfl⟩ | ⟨n, k, rfl, hx, rfl⟩ <;>
    simp_all [StepTo, stepG, stepG.exec, fat, doReturn, GStep.after]

theorem ur_roundEnd {lb db : Nat} {f : FuncId} {tmps : Array Value} {ps : Array Tmp} {asg bd : Code} {pd : Option Code} {R : Value → Hp → Prop} {L L' : List HProp} (G : Rnd P F C lb R) (H : Own L h)
    [u : Upd L lb (loopO .busy pd f tmps ps asg bd db) (loopO .ready none f tmps ps asg bd db) L'] (hk : ∀ h', Own L' h' → R (.bool true) h') : UR P F N C [] l ds h :=
  run_roundEnd (u := u) none G H (.inl ⟨rfl, rfl⟩) hk
theorem ur_roundRet {lb db : Nat} {f : FuncId} {tmps : Array Value} {ps : Array Tmp} {asg bd : Code} {pd : Option Code} {R : Value → Hp → Prop} {L L' : List HProp} (G : Rnd P F C lb R) (H : Own L h)
    [u : Upd L lb (loopO .busy pd f tmps ps asg bd db) (loopO .done (some .ret) f tmps ps asg bd db) L'] (hk : ∀ h', Own L' h' → R (.bool false) h') : UR P F N C (.code .ret :: k) l ds h :=
  run_roundEnd (u := u) (some .ret) G H (.inr (.inl ⟨_, rfl, rfl⟩)) hk
theorem ur_roundExit {lb db n : Nat} {f : FuncId} {tmps : Array Value} {ps : Array Tmp} {asg bd : Code} {pd : Option Code} {R : Value → Hp → Prop} {L L' : List HProp} (hx : exitTo n k = none) (G : Rnd P F C lb R) (H : Own L h)
    [u : Upd L lb (loopO .busy pd f tmps ps asg bd db) (loopO .done (some (.exit n)) f tmps ps asg bd db) L'] (hk : ∀ h', Own L' h' → R (.bool false) h') : UR P F N C (.code (.exit n) :: k) l ds h :=
  run_roundEnd (u := u) (some (.exit n)) G H (.inr (.inr ⟨_, _, rfl, hx, rfl⟩)) hk

/-- What the loop's record must be when the iterator has come to its end. -/
def LoopEnd (lb : Nat) (pd : Option Code) (L : List HProp) (h : Hp) : Prop :=
  ∃ st f tmps ps asg bd db, st ≠ LoopState.busy ∧ Own (pt lb (loopO st pd f tmps ps asg bd db) :: L) h

theorem seen_nil (f : FuncId) : seen P f #[] = #[] := by simp [seen]
/-- The statement. -/
theorem ur_rangeFunc {g : Operand} {p : Tmp} {asg bd : Code} {f : FuncId} {fs cs : List Value} {L : List HProp} (H : Own L h) (hro : C.b.roundOf = none) (hg : ev l g = some (.func (.func f) fs.toArray cs.toArray)) [hb : HasBody P f]
    (hk : ∀ lb db tmps h' asg' bd' fn', asg' = asg → bd' = bd → fn' = C.b.fn → F lb = none → F db = none → Env N l { tmps := tmps, defers := [] } → Own (pt lb (loopO .ready none fn' tmps #[p] asg' bd' db) :: pt db (.deferred (some [])) :: L) h' →
      CallS P F f ((fs ++ [Value.func (.yield lb) #[] #[]]) ++ cs).toArray h' fun _ h2 => ∃ pd L2, LoopEnd lb pd L2 h2 ∧
        ∀ h3, Own L2 h3 → UR P F N C ((pd.map Item.code).toList ++ k) l ({ target := .collected db, args := #[] } :: ds) h3) :
    UR P F N C (.code (.rangeFunc g #[p] asg bd) :: k) l ds h := by
  intro a e d
  have hs : SemS P F h (do let x ← Instr.enterLoop C.b.fn a.tmps #[p] asg bd C.b.roundOf; pure x) fun x h' => ∃ lb db, x = (lb, [{ target := .collected db, args := #[] }]) ∧ F lb = none ∧ F db = none ∧
      Own (pt lb (loopO .ready none C.b.fn a.tmps #[p] asg bd db) :: pt db (.deferred (some [])) :: L) h' := by
    rw [hro]
    unfold Instr.enterLoop
    refine .bind' (.bind' (.new fun db hdb hF => ?_))
    refine SemS.pure (SemS.bind' (SemS.pure' (SemS.bind' (SemS.new fun lb hlb hF2 => SemS.pure' ⟨lb, db, rfl, hF2, hF, ?_⟩))))
    exact (H.new hdb).new hlb
  refine Run.step fun w fw => ?_
  obtain ⟨⟨lb, mark⟩, w1, h1, es1, r1, g1, lb', db, hx, hF1, hF2, o1⟩ := hs w fw
  cases hx
  have r1' := r1 #[]
  simp only [Array.empty_append] at r1'
  have e' : Env N l { tmps := a.tmps, defers := [{ target := .collected db, args := #[] }] ++ a.defers } := e
  have hc := hk lb db a.tmps h1 _ _ _ rfl rfl rfl hF1 hF2 e o1
  have hcf := still_callFunc (args := ((fs ++ [Value.func (.yield lb) #[] #[]]) ++ cs).toArray) hb w1 #[]
  have hev := e'.ev hg
  refine ⟨_, _, h1, w1, seen P C.b.fn es1 ++ #[], ?_, ?_, hc C.main C.Stop (fat C.b { tmps := a.tmps, defers := [{ target := .collected db, args := #[] }] ++ a.defers } (.inRangeFunc lb :: k) :: C.cs) ?_⟩
  · have hev2 := eval_fat C.b { tmps := a.tmps, defers := [{ target := .collected db, args := #[] }] ++ a.defers } (.inRangeFunc lb :: k)
    simp only [fat] at hev2
    have hres : ∀ type, resolve (Act.eval { tmps := a.tmps, defers := [{ target := .collected db, args := #[] }] ++ a.defers }) { callee := .value g, args := #[.const (.func (.yield lb) #[] #[])], argTypes := #[] } type =
        pure { target := .fn (.func f) cs.toArray, args := fs.toArray ++ #[Value.func (.yield lb) #[] #[]] } := by
      intro type
      simp only [resolve, hev, Deferred.ofValue]
      simp [Act.eval]
    have hinv : invoke (.fn (.func f) cs.toArray) (fs.toArray ++ #[Value.func (.yield lb) #[] #[]]) = callFunc f ((fs ++ [Value.func (.yield lb) #[] #[]]) ++ cs).toArray := by
      simp [invoke]
    have hsem : (do let d ← resolve (Act.eval { tmps := a.tmps, defers := [{ target := .collected db, args := #[] }] ++ a.defers }) { callee := .value g, args := #[.const (.func (.yield lb) #[] #[])], argTypes := #[] } 0; invoke d.target d.args) =
        callFunc f ((fs ++ [Value.func (.yield lb) #[] #[]]) ++ cs).toArray := by
      rw [hres]
      exact hinv
    simp only [StepTo, stepG, stepG.exec, fat, r1']
    rw [hev2]
    simp only [stepG.apply, hsem, hcf, if_true]
    simp [GStep.after, seen_nil]
  · exact g1.less fun e he => mem_seen (by simpa using he)
  · rintro v fr' h2 lv _ ⟨pd, L2, ⟨st, f', tmps', ps', asg', bd', db', hst, o2⟩, hk2⟩
    refine run_return lv ?_
    have hfin : (fat C.b { tmps := a.tmps, defers := [{ target := .collected db, args := #[] }] ++ a.defers } (.inRangeFunc lb :: k)).finish v = fat C.b { tmps := a.tmps, defers := [{ target := .collected db, args := #[] }] ++ a.defers } (.endRangeFunc lb :: k) := by
      simp [Frame.finish, fat]
    rw [hfin]
    have HE : SemS P F h2 (Instr.endLoop lb) fun x h' => x = pd ∧ Own L2 h' := by
      obtain ⟨hb2, ho2⟩ := (inferInstance : Upd (pt lb (loopO st pd f' tmps' ps' asg' bd' db') :: L2) lb (loopO st pd f' tmps' ps' asg' bd' db') (loopO .exhausted pd f' tmps' ps' asg' bd' db') (pt lb (loopO .exhausted pd f' tmps' ps' asg' bd' db') :: L2)).upd o2
      unfold Instr.endLoop Instr.getLoop
      refine .bind' (.bind' (.getObj (.inl hb2) (fun _ _ _ e => by cases e) rfl (.pure' ?_)))
      have : (st == LoopState.busy) = false := by simpa using hst
      simp only [this, Bool.false_eq_true, if_false]
      exact SemS.bind' (SemS.setObj hb2 (fun _ _ _ e => by cases e) rfl (SemS.pure' ⟨rfl, ho2.tail⟩))
    refine Run.step fun w fw => ?_
    obtain ⟨x, w', h', es, r, g, rfl, o⟩ := HE w fw
    have r0 := r #[]
    simp only [Array.empty_append] at r0
    have r1 : (Instr.endLoop lb).run P w = .ok x w' := by rw [← Sem.runT_fst P _ w #[], r0]
    have r2 : (Instr.endLoop lb).events P w #[] = es := by unfold Sem.events; rw [r0]
    refine ⟨_, C.cs, h', w', seen P C.b.fn es, ?_, g.less fun e he => mem_seen he, hk2 h' o { tmps := a.tmps, defers := [{ target := .collected db, args := #[] }] ++ a.defers } e (by simp [d])⟩
    simp [StepTo, stepG, stepG.exec, fat, r1, r2, GStep.after]

/-- The return of a function that has ranged over a function. -/
theorem run_leaveD {f : FuncId} {fn : Func} {R : Value → Hp → Prop} {rs : List ResultVar} {vs : List Value} {todo : List Item} {db : Nat} {L L' : List HProp} (G : Rets P F C f R) (H : Own L h) [u : Upd L db (.deferred (some [])) (.deferred none) L'] (hf : P.funcs[f]? = some fn) (hr : fn.results = rs.toArray)
    (ht : todo = [] ∨ ∃ k, todo = .code .ret :: k) (hv : ∀ h', Own L' h' → ResV P F h' l rs vs ∧ R (retV vs) h') : UR P F N C todo l [{ target := .collected db, args := #[] }] h := by
  intro a e hd
  obtain ⟨hb, ho⟩ := u.upd H
  refine Run.quiet (fr' := { fat C.b a todo with mode := .returning }) (cs' := C.cs) (fun w => ?_) ?_
  · rcases ht with rfl | ⟨k, rfl⟩ <;> simp [StepTo, stepG, stepG.exec, fat, G.ro]
  · have HE : SemS P F h (Instr.takeDeferred db) fun x h' => x = [] ∧ Own L' h' := by
      unfold Instr.takeDeferred
      refine .bind' (.getObj (.inl hb) (fun _ _ _ e => by cases e) rfl ?_)
      exact .bind' (.setObj hb (fun _ _ _ e => by cases e) rfl (.pure' ⟨rfl, ho⟩))
    refine Run.step fun w fw => ?_
    obtain ⟨x, w', h', es, r, g, rfl, o⟩ := HE w fw
    have r0 := r #[]
    simp only [Array.empty_append] at r0
    have r1 : (Instr.takeDeferred db).run P w = .ok [] w' := by rw [← Sem.runT_fst P _ w #[], r0]
    have r2 : (Instr.takeDeferred db).events P w #[] = es := by unfold Sem.events; rw [r0]
    refine ⟨{ fat C.b a todo with mode := .returning, defers := [] }, C.cs, h', w', seen P C.b.fn es, ?_, g.less fun e he => mem_seen he, ?_⟩
    · simp [StepTo, stepG, unwind, fat, hd, r1, r2, GStep.after]
    · refine G.ret (retV vs) _ h' ⟨rfl, rfl, G.kind, fn, ?_, ?_⟩ G.fn (hv h' o).2
      · show P.funcs[C.b.fn]? = some fn
        rw [G.fn]; exact hf
      · exact results_sem e hr (hv h' o).1
theorem ur_retD1 {f : FuncId} {fn : Func} {R : Value → Hp → Prop} {t db : Nat} {v : Value} {L L' : List HProp} (G : Rets P F C f R) (H : Own L h) (hf : P.funcs[f]? = some fn) (hr : fn.results = #[.tmp t]) (hv : lk l t = some v) [u : Upd L db (.deferred (some [])) (.deferred none) L'] (HR : ∀ h', Own L' h' → R v h') :
    UR P F N C (.code .ret :: k) l [{ target := .collected db, args := #[] }] h :=
  run_leaveD (u := u) (rs := [.tmp t]) (vs := [v]) G H hf hr (.inr ⟨_, rfl⟩) fun h' o => ⟨⟨hv, trivial⟩, HR h' o⟩
theorem ur_endD0 {f : FuncId} {fn : Func} {R : Value → Hp → Prop} {db : Nat} {L L' : List HProp} (G : Rets P F C f R) (H : Own L h) (hf : P.funcs[f]? = some fn) (hr : fn.results = #[]) [u : Upd L db (.deferred (some [])) (.deferred none) L'] (HR : ∀ h', Own L' h' → R (.tuple #[]) h') :
    UR P F N C [] l [{ target := .collected db, args := #[] }] h :=
  run_leaveD (u := u) (rs := []) (vs := []) G H hf hr (.inl rfl) fun h' o => ⟨trivial, HR h' o⟩
end Go.BL
