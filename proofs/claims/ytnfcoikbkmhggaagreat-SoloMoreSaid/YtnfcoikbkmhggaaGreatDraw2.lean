/- A piece of a region whose order is drawn: it is enough to walk it in one order, where all but some operations hang on nothing that the others do. -/
import Derived.Test.YtnfcoikbkmhggaaGreatDraw
set_option linter.all false
set_option linter.unusedVariables false
set_option linter.unusedSimpArgs false
namespace Go.BL
variable {P : Program} {F h : Hp} {N : Nat} {l : TL} {C : Ctx} {k : List Item} {ds : List Deferred} {ops : Array Oper}

/-! ### Who comes ahead of whom -/
def maskOf (acc : List Nat) (o : Oper) : Nat := o.after.toList.foldl (fun s e => if Region.binds .any e then s ||| 2 ^ e.on ||| acc.getD e.on 0 else s) 0
def masks : List Oper → List Nat → List Nat
  | [], acc => acc
  | o :: os, acc => masks os (acc ++ [maskOf acc o])
/-- i must be carried out ahead of j. -/
def anc (ops : Array Oper) (j i : Nat) : Bool := ((masks ops.toList []).getD j 0).testBit i

inductive Reach (ops : Array Oper) : Nat → Nat → Prop
  | one {j i : Nat} : i ∈ preds ops j → Reach ops j i
  | step {j e i : Nat} : e ∈ preds ops j → Reach ops e i → Reach ops j i

theorem Reach.mem {S : List Nat} (hS : ∀ j ∈ S, ∀ e ∈ preds ops j, e ∈ S) {j i : Nat} (r : Reach ops j i) : (∀ e ∈ preds ops j, e ∈ S) → i ∈ S := by
  induction r with
  | one hi => exact fun H => H _ hi
  | step he _ ih => exact fun H => ih fun x hx => hS _ (H _ he) x hx

theorem maskOf_bits {acc : List Nat} {i : Nat} : ∀ (es : List Edge) (s : Nat), (es.foldl (fun s e => if Region.binds .any e then s ||| 2 ^ e.on ||| acc.getD e.on 0 else s) s).testBit i = true →
    s.testBit i = true ∨ ∃ e ∈ es, Region.binds .any e = true ∧ (e.on = i ∨ (acc.getD e.on 0).testBit i = true)
  | [], s, H => .inl H
  | e :: es, s, H => by
    simp only [List.foldl_cons] at H
    rcases maskOf_bits es _ H with x | ⟨y, hy, hb, hx⟩
    · by_cases c : Region.binds .any e = true
      · simp only [c, if_true, Nat.testBit_or, Bool.or_eq_true, Nat.testBit_two_pow, decide_eq_true_eq] at x
        rcases x with (x | x) | x
        · exact .inl x
        · exact .inr ⟨e, by simp, c, .inl x⟩
        · exact .inr ⟨e, by simp, c, .inr x⟩
      · simp only [c, if_false, Bool.false_eq_true] at x
        exact .inl x
    · exact .inr ⟨y, by simp [hy], hb, hx⟩

theorem masks_reach (ops : Array Oper) : ∀ (os : List Oper) (acc : List Nat), (∀ n, os[n]? = ops[acc.length + n]?) → (∀ j i, (acc.getD j 0).testBit i = true → Reach ops j i) →
    ∀ j i, ((masks os acc).getD j 0).testBit i = true → Reach ops j i
  | [], acc, _, H, j, i, h => H j i h
  | o :: os, acc, ho, H, j, i, h => by
    unfold masks at h
    refine masks_reach ops os (acc ++ [maskOf acc o]) (fun n => ?_) (fun j i hb => ?_) j i h
    · have := ho (n + 1)
      simp only [List.getElem?_cons_succ] at this
      rw [this, List.length_append, List.length_singleton]
      congr 1; omega
    · by_cases hj : j < acc.length
      · refine H j i ?_
        simpa [List.getD_eq_getElem?_getD, List.getElem?_append_left hj] using hb
      · by_cases he : j = acc.length
        · subst he
          have hb' : (maskOf acc o).testBit i = true := by simpa [List.getD_eq_getElem?_getD] using hb
          rcases maskOf_bits _ _ hb' with x | ⟨e, he, hbd, x⟩
          · simp at x
          · have hp : e.on ∈ preds ops acc.length := by
              have h0 := ho 0
              simp only [List.getElem?_cons_zero, Nat.add_zero] at h0
              unfold preds
              rw [← h0]
              simp only [List.mem_map, List.mem_filter]
              exact ⟨e, ⟨he, hbd⟩, rfl⟩
            rcases x with x | x
            · subst x; exact .one hp
            · exact .step hp (H _ _ x)
        · rw [List.getD_eq_getElem?_getD, List.getElem?_eq_none (by simp; omega)] at hb
          simp at hb

theorem anc_reach {j i : Nat} (h : anc ops j i = true) : Reach ops j i :=
  masks_reach ops ops.toList [] (fun n => by simp) (fun j i h => by simp at h) j i h

/-! ### Walking in one order -/
def putD (d : Option Tmp) (v : Value) (l : TL) : TL :=
  match d with
  | some d => (d, v) :: l
  | none => l
/-- Is a guarded operation wanted? -/
def wantL (ops : Array Oper) (l : TL) (o : Oper) : Option Bool :=
  match o.guard with
  | none => some true
  | some (g, want) =>
    match (ops[g]?).bind (·.dst) with
    | some t =>
      match lk l t with
      | some (.bool b) => some (b == want)
      | some (.tuple _) => some false
      | _ => none
    | none => none
theorem wantL_spec {a : Act} {o : Oper} {w : Bool} (e : Env N l a) (h : wantL ops l o = some w) : Region.wanted o (yielded ops a.tmps) = w := by
  unfold wantL at h
  unfold Region.wanted
  cases hg : o.guard with
  | none => simp only [hg, Option.some.injEq] at h; exact h
  | some gw =>
    obtain ⟨g, want⟩ := gw
    simp only [hg] at h
    simp only []
    unfold yielded
    cases hd : (ops[g]?).bind (·.dst) with
    | none => simp [hd] at h
    | some t =>
      simp only [hd] at h
      cases hl : lk l t with
      | none => simp [hl] at h
      | some v =>
        have := e.2 t v hl
        simp only [Option.bind_some, this]
        cases v <;> simp [hl] at h
        case bool b => subst h; cases b <;> cases want <;> rfl
        case tuple vs => subst h; rfl

/-- An operation that does the same whatever is owned, as long as Q holds of it. -/
def FreeV (P : Program) (F : Hp) (N : Nat) (Q : Hp → Prop) (o : Oper) (l : TL) (v : Value) : Prop :=
  ∀ a, Env N l a → ∀ (h : Hp) (K : Value → Hp → Prop), Q h → K v h → SemS P F h (execOp a.eval o) fun nx h' => NextK P F nx h' K
theorem FreeV.of {Q : Hp → Prop} {o : Oper} {v : Value} (H : ∀ (h : Hp) (K : Value → Hp → Prop), Q h → K v h → OPV P F N o l h K) : FreeV P F N Q o l v := by
  intro a ha h K hq hk
  obtain ⟨s, hs, HS⟩ := H h K hq hk
  rw [hs a ha]; exact HS
theorem NextK.mono {nx : Next} {h : Hp} {K K' : Value → Hp → Prop} (H : NextK P F nx h K) (hk : ∀ v h, K v h → K' v h) : NextK P F nx h K' := by
  cases nx <;> first | exact H.elim | skip
  case value v => exact hk _ _ H
  case skip => exact hk _ _ H
  case enter f args => exact CallS.mono H hk
  case round a b c d e => exact fun main Stop c cs hr => H main Stop c cs fun v h' q => hr v h' (hk v h' q)
theorem OPV.mono {o : Oper} {K K' : Value → Hp → Prop} (H : OPV P F N o l h K) (hk : ∀ v h, K v h → K' v h) : OPV P F N o l h K' := by
  obtain ⟨s, hs, HS⟩ := H
  exact ⟨s, hs, HS.mono fun nx h' hn => hn.mono hk⟩

def plainOp : Op → Bool
  | .defer _ => false
  | .select .. => false
  | _ => true
def TO (P : Program) (F : Hp) (N : Nat) (Q : Hp → Prop) (ops : Array Oper) (free : List Nat) : List Nat → TL → Hp → (TL → Hp → Prop) → Prop
  | [], l, h, K => K l h
  | j :: js, l, h, K => ∃ o w, ops[j]? = some o ∧ plainOp o.op = true ∧ wantL ops l o = some w ∧
      (w = true → free.contains j = true → ∃ v, FreeV P F N Q o l v ∧ TO P F N Q ops free js (putD o.dst v l) h K) ∧
      (w = true → free.contains j = false → OPV P F N o l h fun v h' => Q h' ∧ TO P F N Q ops free js (putD o.dst v l) h' K) ∧
      (w = false → TO P F N Q ops free js (putD o.dst undef l) h K)

variable {free : List Nat} {js : List Nat} {K : TL → Hp → Prop} {Q : Hp → Prop}
abbrev QT : Hp → Prop := fun _ => True
theorem to_free {j d : Nat} {o : Oper} {v : Value} (ho : ops[j]? = some o) (hp : plainOp o.op = true) (hw : wantL ops l o = some true) (hd : o.dst = some d) (hf : free.contains j = true) (HF : ∀ (h : Hp) (K : Value → Hp → Prop), K v h → OPV P F N o l h K)
    (H : TO P F N Q ops free js ((d, v) :: l) h K) : TO P F N Q ops free (j :: js) l h K :=
  ⟨o, true, ho, hp, hw, fun _ _ => ⟨v, .of fun h K _ => HF h K, by rw [hd]; exact H⟩, fun _ c => (by rw [hf] at c; cases c), fun c => (by cases c)⟩
/-- One that hangs on what Q tells. -/
theorem to_freeQ {j d : Nat} {o : Oper} {v : Value} (ho : ops[j]? = some o) (hp : plainOp o.op = true) (hw : wantL ops l o = some true) (hd : o.dst = some d) (hf : free.contains j = true) (HF : ∀ (h : Hp) (K : Value → Hp → Prop), Q h → K v h → OPV P F N o l h K)
    (H : TO P F N Q ops free js ((d, v) :: l) h K) : TO P F N Q ops free (j :: js) l h K :=
  ⟨o, true, ho, hp, hw, fun _ _ => ⟨v, .of HF, by rw [hd]; exact H⟩, fun _ c => (by rw [hf] at c; cases c), fun c => (by cases c)⟩
theorem to_effQ {j d : Nat} {o : Oper} (ho : ops[j]? = some o) (hp : plainOp o.op = true) (hw : wantL ops l o = some true) (hd : o.dst = some d) (hf : free.contains j = false)
    (H : OPV P F N o l h fun v h' => Q h' ∧ TO P F N Q ops free js ((d, v) :: l) h' K) : TO P F N Q ops free (j :: js) l h K :=
  ⟨o, true, ho, hp, hw, fun _ c => (by rw [hf] at c; cases c), fun _ _ => by rw [hd]; exact H, fun c => (by cases c)⟩
theorem to_effQ0 {j : Nat} {o : Oper} (ho : ops[j]? = some o) (hp : plainOp o.op = true) (hw : wantL ops l o = some true) (hd : o.dst = none) (hf : free.contains j = false)
    (H : OPV P F N o l h fun _ h' => Q h' ∧ TO P F N Q ops free js l h' K) : TO P F N Q ops free (j :: js) l h K :=
  ⟨o, true, ho, hp, hw, fun _ c => (by rw [hf] at c; cases c), fun _ _ => by rw [hd]; exact H, fun c => (by cases c)⟩
theorem to_eff {j d : Nat} {o : Oper} (ho : ops[j]? = some o) (hp : plainOp o.op = true) (hw : wantL ops l o = some true) (hd : o.dst = some d) (hf : free.contains j = false)
    (H : OPV P F N o l h fun v h' => TO P F N QT ops free js ((d, v) :: l) h' K) : TO P F N QT ops free (j :: js) l h K :=
  to_effQ ho hp hw hd hf (H.mono fun _ _ k => ⟨trivial, k⟩)
theorem to_eff0 {j : Nat} {o : Oper} (ho : ops[j]? = some o) (hp : plainOp o.op = true) (hw : wantL ops l o = some true) (hd : o.dst = none) (hf : free.contains j = false)
    (H : OPV P F N o l h fun _ h' => TO P F N QT ops free js l h' K) : TO P F N QT ops free (j :: js) l h K :=
  to_effQ0 ho hp hw hd hf (H.mono fun _ _ k => ⟨trivial, k⟩)
theorem to_skip {j d : Nat} {o : Oper} (ho : ops[j]? = some o) (hp : plainOp o.op = true) (hw : wantL ops l o = some false) (hd : o.dst = some d) (H : TO P F N Q ops free js ((d, undef) :: l) h K) : TO P F N Q ops free (j :: js) l h K :=
  ⟨o, false, ho, hp, hw, fun c => (by cases c), fun c => (by cases c), fun _ => by rw [hd]; exact H⟩
theorem to_end (H : K l h) : TO P F N Q ops free [] l h K := H

/-- What must hold of the order that is walked (S: what was done ahead of it). -/
def segOK (O ops : Array Oper) (N : Nat) (S js free : List Nat) : Bool :=
  decide (O.size = ops.size) && js.all (fun j => decide (j < ops.size) && !S.contains j) && decide js.Nodup &&
  ((List.range js.length).all fun p => (preds O (js.getD p 0)).all fun e => S.contains e || (js.take p).contains e) &&
  ((List.range ops.size).all fun i => S.contains i || js.contains i || js.all (anc O i)) &&
  ((List.range js.length).all fun p => free.contains (js.getD p 0) || (js.drop (p + 1)).all fun i => anc O i (js.getD p 0)) &&
  (js.all fun i => js.all fun j => match (ops[i]?).bind (·.dst) with
    | none => true
    | some d => decide (d < N) && (i == j || (ops[j]?).bind (·.dst) != some d) && (!(((ops[j]?).map (Oper.looksAt ops)).getD []).contains d || anc O j i || anc O i j))
end Go.BL
