/- A function's beginning and its return. -/
import Derived.Test.YtnfcoikbkmhggaaGreatOps3
import Derived.Laws.Sem
set_option linter.all false
set_option linter.unusedVariables false
set_option linter.unusedSimpArgs false
namespace Go.BL
variable {P : Program} {F h : Hp} {N : Nat} {l : TL} {C : Ctx} {k : List Item}

def argsTL : Nat → List Value → TL
  | _, [] => []
  | i, v :: vs => (i, v) :: argsTL (i + 1) vs
theorem lk_args : ∀ (vs : List Value) (i t : Nat) (v : Value), lk (argsTL i vs) t = some v → i ≤ t ∧ vs[t - i]? = some v
  | [], _, _, _, H => by cases H
  | u :: us, i, t, v, H => by
    unfold argsTL lk at H
    by_cases e : Nat.beq t i = true
    · have := Nat.eq_of_beq_eq_true e
      subst this
      simp only [e, if_true, Option.some.injEq] at H
      subst H
      simp
    · simp only [e, Bool.false_eq_true, if_false] at H
      obtain ⟨h1, h2⟩ := lk_args us (i + 1) t v H
      refine ⟨by omega, ?_⟩
      rw [show t - i = (t - (i + 1)) + 1 by omega, List.getElem?_cons_succ]
      exact h2

/-- The frame is one of function f; a return that serves brings the run on. -/
structure Rets (P : Program) (F : Hp) (C : Ctx) (f : FuncId) (R : Value → Hp → Prop) : Prop where
  fn : C.b.fn = f
  kind : C.b.kind = .normal
  ro : C.b.roundOf = none
  ret : ∀ v fr h', Leaving P F v fr h' → fr.fn = f → R v h' → Run P C.main F C.Stop fr C.cs h'

theorem callS_intro {f : FuncId} {fn : Func} {code : Code} {vs : List Value} {R : Value → Hp → Prop} (hf : P.funcs[f]? = some fn) (hb : fn.body = some code) (hN : fn.ntmps = N) (hl : Nat.ble vs.length N = true)
    (H : ∀ C, Rets P F C f R → UR P F N C [.code code] (argsTL 0 vs) [] h) : CallS P F f vs.toArray h R := by
  intro main Stop cs hk
  have hl' : vs.length ≤ N := Nat.le_of_ble_eq_true hl
  have H := H ⟨main, Stop, cs, { (default : Frame) with fn := f, kind := .normal, roundOf := none }⟩ ⟨rfl, rfl, rfl, fun v fr h' a b c => hk v fr h' a b c⟩
    { tmps := vs.toArray ++ Array.replicate (N - vs.length) undef, defers := [] } ⟨by simp; omega, fun t v e => ?_⟩ rfl
  · have : Frame.enter P f vs.toArray .normal = fat { (default : Frame) with fn := f, kind := .normal, roundOf := none } { tmps := vs.toArray ++ Array.replicate (N - vs.length) undef, defers := [] } [.code code] := by
      simp [Frame.enter, fat, hf, hb, hN]
    rw [this]
    exact H
  · obtain ⟨_, h2⟩ := lk_args vs 0 t v e
    rw [Nat.sub_zero] at h2
    have := (List.getElem?_eq_some_iff.1 h2).1
    simp only
    rw [Array.getElem?_append_left (by simpa using this)]
    simpa using h2

/-- What stands in the result variables. -/
def ResV (P : Program) (F h : Hp) (l : TL) : List ResultVar → List Value → Prop
  | [], [] => True
  | .tmp t :: rs, v :: vs => lk l t = some v ∧ ResV P F h l rs vs
  | .cell a T :: rs, v :: vs => (∃ p, lk l a = some (.pointer (some p)) ∧ SemS P F h (loadVar T p) fun v' h' => v' = v ∧ h' = h) ∧ ResV P F h l rs vs
  | _, _ => False
def retV (vs : List Value) : Value := if hs : vs.toArray.size = 1 then vs.toArray[0] else .tuple vs.toArray

theorem ResV.sem {a : Act} (e : Env N l a) : ∀ (rs : List ResultVar) (vs : List Value), ResV P F h l rs vs →
    SemS P F h (rs.mapM fun | .tmp t => pure (a.tmps.getD t undef) | .cell p t => do loadVar t (← asAddr (a.tmps.getD p undef))) fun v' h' => v' = vs ∧ h' = h := by
  intro rs
  induction rs with
  | nil =>
    intro vs H
    cases vs with
    | nil => rw [List.mapM_nil]; exact .pure' ⟨rfl, rfl⟩
    | cons v vs => exact H.elim
  | cons r rs ih =>
    intro vs H
    cases vs with
    | nil => cases r <;> exact H.elim
    | cons v vs =>
      cases r with
      | tmp t =>
        rw [List.mapM_cons]
        have := e.ev (x := .tmp t) H.1
        simp only [Act.eval] at this
        simp only [this]
        refine .bind' (.pure' (.bind' ((ih vs H.2).mono ?_)))
        rintro v' h' ⟨rfl, rfl⟩
        exact .pure' ⟨rfl, rfl⟩
      | cell q T =>
        obtain ⟨⟨p, hp, hs⟩, H2⟩ := H
        rw [List.mapM_cons]
        have := e.ev (x := .tmp q) hp
        simp only [Act.eval] at this
        simp only [this]
        refine .bind' (.bind' (SemS.pure' (hs.mono ?_)))
        rintro v' h' ⟨rfl, rfl⟩
        refine .bind' ((ih vs H2).mono ?_)
        rintro v' h' ⟨rfl, rfl⟩
        exact .pure' ⟨rfl, rfl⟩

theorem results_sem {fn : Func} {a : Act} {rs : List ResultVar} {vs : List Value} (e : Env N l a) (hr : fn.results = rs.toArray) (H : ResV P F h l rs vs) :
    SemS P F h (results fn a.tmps) fun v' h' => v' = retV vs ∧ h' = h := by
  unfold results
  rw [hr, List.mapM_toArray]
  refine .bind' (.map' ((ResV.sem e rs vs H).mono ?_))
  rintro v' h' ⟨rfl, rfl⟩
  exact .pure' ⟨rfl, rfl⟩

/-- A frame's work is done: its end, or a return statement. -/
theorem run_leave {f : FuncId} {fn : Func} {R : Value → Hp → Prop} {rs : List ResultVar} {vs : List Value} {todo : List Item} (G : Rets P F C f R) (hf : P.funcs[f]? = some fn) (hr : fn.results = rs.toArray) (hv : ResV P F h l rs vs)
    (ht : todo = [] ∨ ∃ k, todo = .code .ret :: k) (HR : R (retV vs) h) : UR P F N C todo l [] h := by
  intro a e hd
  refine Run.quiet (fr' := { fat C.b a todo with mode := .returning }) (cs' := C.cs) (fun w => ?_) ?_
  · rcases ht with rfl | ⟨k, rfl⟩ <;> simp [StepTo, stepG, stepG.exec, fat, G.ro]
  · refine G.ret (retV vs) _ h ⟨rfl, hd, G.kind, fn, ?_, ?_⟩ G.fn HR
    · show P.funcs[C.b.fn]? = some fn
      rw [G.fn]; exact hf
    · exact results_sem e hr hv

theorem ur_ret0 {f : FuncId} {fn : Func} {R : Value → Hp → Prop} (G : Rets P F C f R) (hf : P.funcs[f]? = some fn) (hr : fn.results = #[]) (HR : R (.tuple #[]) h) : UR P F N C (.code .ret :: k) l [] h :=
  run_leave (rs := []) (vs := []) G hf hr trivial (.inr ⟨_, rfl⟩) HR
theorem ur_end0 {f : FuncId} {fn : Func} {R : Value → Hp → Prop} (G : Rets P F C f R) (hf : P.funcs[f]? = some fn) (hr : fn.results = #[]) (HR : R (.tuple #[]) h) : UR P F N C [] l [] h :=
  run_leave (rs := []) (vs := []) G hf hr trivial (.inl rfl) HR
theorem ur_ret1 {f : FuncId} {fn : Func} {R : Value → Hp → Prop} {t : Nat} {v : Value} (G : Rets P F C f R) (hf : P.funcs[f]? = some fn) (hr : fn.results = #[.tmp t]) (hv : lk l t = some v) (HR : R v h) : UR P F N C (.code .ret :: k) l [] h :=
  run_leave (rs := [.tmp t]) (vs := [v]) G hf hr ⟨hv, trivial⟩ (.inr ⟨_, rfl⟩) HR
theorem ur_ret2 {f : FuncId} {fn : Func} {R : Value → Hp → Prop} {t u : Nat} {v x : Value} (G : Rets P F C f R) (hf : P.funcs[f]? = some fn) (hr : fn.results = #[.tmp t, .tmp u]) (hv : lk l t = some v) (hx : lk l u = some x)
    (HR : R (.tuple #[v, x]) h) : UR P F N C (.code .ret :: k) l [] h :=
  run_leave (rs := [.tmp t, .tmp u]) (vs := [v, x]) G hf hr ⟨hv, hx, trivial⟩ (.inr ⟨_, rfl⟩) HR
theorem ur_ret3 {f : FuncId} {fn : Func} {R : Value → Hp → Prop} {t u s : Nat} {v x y : Value} (G : Rets P F C f R) (hf : P.funcs[f]? = some fn) (hr : fn.results = #[.tmp t, .tmp u, .tmp s]) (hv : lk l t = some v) (hx : lk l u = some x) (hy : lk l s = some y)
    (HR : R (.tuple #[v, x, y]) h) : UR P F N C (.code .ret :: k) l [] h :=
  run_leave (rs := [.tmp t, .tmp u, .tmp s]) (vs := [v, x, y]) G hf hr ⟨hv, hx, hy, trivial⟩ (.inr ⟨_, rfl⟩) HR
/-- The result is a struct that lies in memory. -/
theorem SemS.loadVarA {T : TypeId} {b off n by_ : Nat} {cs vs : List Value} {t : TypeId} {fr : Nat × Nat} {z : Value} {K : Value → Hp → Prop} (hb : h b = some (.cells cs.toArray t fr) ∨ F b = some (.cells cs.toArray t fr)) (tu : TA P T true) (ti : TI P T n by_ z)
    (g : GetL cs off n vs) (hk : K (.agg vs.toArray) h) : SemS P F h (loadVar T ⟨b, off, none⟩) K := by
  unfold loadVar
  refine .bind' (.isAgg tu ?_)
  simp only [if_true]
  refine .bind' (.sizeOf ti (.bind' (.loadCells hb (by simpa using g.g.1) (.pure' ?_))))
  have e : cs.toArray.extract off (off + n) = vs.toArray := by
    apply Array.toList_inj.1
    simp only [Array.toList_extract, List.extract_eq_take_drop]
    rw [show off + n - off = n by omega]
    exact g.g.2
  rw [e]; exact hk
theorem ur_retA {f : FuncId} {fn : Func} {R : Value → Hp → Prop} {t T b n by_ : Nat} {cs vs : List Value} {ty : TypeId} {z : Value} {L : List HProp} (G : Rets P F C f R) (H : Own L h) (hf : P.funcs[f]? = some fn) (hr : fn.results = #[.cell t T])
    (hv : lk l t = some (.pointer (some ⟨b, 0, none⟩))) [i : Has L b (.cells cs.toArray ty (0, 0))] [tu : TA P T true] [ti : TI P T n by_ z] [g : GetL cs 0 n vs] (HR : R (.agg vs.toArray) h) : UR P F N C (.code .ret :: k) l [] h :=
  run_leave (rs := [.cell t T]) (vs := [.agg vs.toArray]) G hf hr ⟨⟨_, hv, .loadVarA (.inl (i.has H)) tu ti g ⟨rfl, rfl⟩⟩, trivial⟩ (.inr ⟨_, rfl⟩) HR
end Go.BL
