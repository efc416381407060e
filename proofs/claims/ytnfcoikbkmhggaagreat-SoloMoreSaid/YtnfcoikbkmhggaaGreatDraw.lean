/- Regions whose order is drawn: whatever order the edges allow. -/
import Derived.Test.YtnfcoikbkmhggaaGreatFun
import Derived.Orders
set_option linter.all false
set_option linter.unusedVariables false
set_option linter.unusedSimpArgs false
namespace Go.BL
variable {P : Program} {F h : Hp} {N : Nat} {l : TL} {C : Ctx} {k : List Item} {ds : List Deferred} {ops : Array Oper}

/-- What binds an operation: those that must be carried out ahead of it. -/
def preds (ops : Array Oper) (j : Nat) : List Nat :=
  match ops[j]? with
  | none => []
  | some o => (o.after.toList.filter (Region.binds .any)).map (·.on)

/-- js is what may follow when those of S are done. -/
def LinC (ops : Array Oper) : List Nat → List Nat → Prop
  | S, [] => ∀ i, i < ops.size → i ∈ S
  | S, j :: js => j ∉ S ∧ j < ops.size ∧ (∀ e ∈ preds ops j, e ∈ S) ∧ LinC ops (j :: S) js

theorem ready_spec {ops : Array Oper} {listed : Array Bool} {i : Nat} : i ∈ Region.ready .any ops listed ↔ i < ops.size ∧ listed.getD i true = false ∧ ∀ e ∈ preds ops i, listed.getD e false = true := by
  unfold Region.ready preds
  simp only [List.mem_filter, List.mem_range, Bool.and_eq_true, Bool.not_eq_true']
  constructor
  · rintro ⟨h1, h2, h3⟩
    refine ⟨h1, h2, fun e he => ?_⟩
    rw [Array.getElem?_eq_getElem h1] at h3 he
    simp only [List.mem_map, List.mem_filter, Array.mem_toList_iff] at he
    obtain ⟨x, ⟨hx, hb⟩, rfl⟩ := he
    simp only [Option.map_some, Option.getD_some, Array.all_eq_true_iff_forall_mem, Bool.or_eq_true, Bool.not_eq_true'] at h3
    rcases h3 x hx with y | y
    · rw [hb] at y; cases y
    · exact y
  · rintro ⟨h1, h2, h3⟩
    refine ⟨h1, h2, ?_⟩
    rw [Array.getElem?_eq_getElem h1] at h3 ⊢
    simp only [Option.map_some, Option.getD_some, Array.all_eq_true_iff_forall_mem, Bool.or_eq_true, Bool.not_eq_true']
    intro x hx
    by_cases hb : Region.binds .any x = true
    · exact .inr (h3 x.on (by simp only [List.mem_map, List.mem_filter, Array.mem_toList_iff]; exact ⟨x, ⟨hx, hb⟩, rfl⟩))
    · exact .inl (by simpa using hb)

/-- All edges that bind lead back. -/
def backward (ops : Array Oper) : Bool := (List.range ops.size).all fun j => (preds ops j).all (· < j)

theorem countP_lt' {p q : Nat → Bool} {i : Nat} (hpq : ∀ j, p j = true → q j = true) (hp : p i = false) (hq : q i = true) : ∀ (L : List Nat), i ∈ L → L.countP p < L.countP q
  | [], hm => by cases hm
  | y :: L, hm => by
    have hsub : L.countP p ≤ L.countP q := List.countP_mono_left fun j _ hj => hpq j hj
    by_cases e : y = i
    · subst e
      rw [List.countP_cons_of_neg (by rw [hp]; simp), List.countP_cons_of_pos hq]
      omega
    · have hm' : i ∈ L := by
        rcases List.mem_cons.1 hm with x | x
        · exact absurd x.symm e
        · exact x
      have := countP_lt' hpq hp hq L hm'
      by_cases c : p y = true
      · rw [List.countP_cons_of_pos c, List.countP_cons_of_pos (hpq y c)]; omega
      · rw [List.countP_cons_of_neg c]
        by_cases c2 : q y = true
        · rw [List.countP_cons_of_pos c2]; omega
        · rw [List.countP_cons_of_neg c2]; exact this

theorem lin_go (hbk : backward ops = true) : ∀ (fuel t : Nat) (listed : Array Bool) (S : List Nat), listed.size = ops.size → (∀ i, i < ops.size → (listed.getD i true = true ↔ i ∈ S)) → (∀ i ∈ S, i < ops.size) →
    (List.range ops.size).countP (fun i => !listed.getD i true) ≤ fuel → LinC ops S (Region.linearise.go .any ops fuel t listed []) := by
  intro fuel
  induction fuel with
  | zero =>
    intro t listed S hs hS hSb hc
    simp only [Region.linearise.go, List.reverse_nil]
    intro i hi
    have : (List.range ops.size).countP (fun i => !listed.getD i true) = 0 := by omega
    rw [List.countP_eq_zero] at this
    have h2 := this i (List.mem_range.2 hi)
    exact (hS i hi).1 (by simpa using h2)
  | succ fuel ih =>
    intro t listed S hs hS hSb hc
    simp only [Region.linearise.go]
    change LinC ops S (match (Region.ready .any ops listed)[t % (Region.ready .any ops listed).length]? with
      | some i => Region.linearise.go .any ops fuel (t / (Region.ready .any ops listed).length) (listed.setIfInBounds i true) [i]
      | none => [].reverse)
    cases hi : (Region.ready .any ops listed)[t % (Region.ready .any ops listed).length]? with
    | none =>
      have hnil : Region.ready .any ops listed = [] := by
        cases hr : Region.ready .any ops listed with
        | nil => rfl
        | cons x xs =>
          rw [hr] at hi
          have hlt : t % (x :: xs).length < (x :: xs).length := Nat.mod_lt _ (by simp)
          simp at hi
          simp at hlt
          omega
      -- the least that is not done would be ready
      have key : ∀ n, n ≤ ops.size → ∀ i, i < n → i ∈ S := by
        intro n
        induction n with
        | zero => intro _ i hi; omega
        | succ n ihn =>
          intro hn i hi
          by_cases e : i = n
          · subst e
            refine Classical.byContradiction fun hns => ?_
            have : i ∈ Region.ready .any ops listed := ready_spec.2 ⟨by omega, by
              cases hl : listed.getD i true with
              | false => rfl
              | true => exact absurd ((hS i (by omega)).1 hl) hns, fun e he => by
              have hb : e < i := by
                unfold backward at hbk
                rw [List.all_eq_true] at hbk
                have := hbk i (List.mem_range.2 (by omega))
                rw [List.all_eq_true] at this
                simpa using this e he
              have := (hS e (by omega)).2 (ihn (by omega) e hb)
              rw [Array.getD_eq_getD_getElem?] at this ⊢
              have hlt : e < listed.size := by omega
              simp [hlt] at this ⊢
              exact this⟩
            rw [hnil] at this
            cases this
          · exact ihn (by omega) i (by omega)
      exact fun i hi => key _ (Nat.le_refl _) i hi
    | some i =>
      simp only []
      rw [linearise_go_acc, List.reverse_singleton, List.singleton_append]
      obtain ⟨h1, h2, h3⟩ := ready_spec.1 (List.mem_of_getElem? hi)
      have hsz : i < listed.size := by omega
      have hget : ∀ j, (listed.setIfInBounds i true).getD j true = if j = i then true else listed.getD j true := by
        intro j
        simp only [Array.getD_eq_getD_getElem?, Array.getElem?_setIfInBounds]
        by_cases e : i = j
        · subst e; simp [hsz]
        · simp [e, Ne.symm e]
      refine ⟨fun x => ?_, h1, fun e he => ?_, ih _ _ (i :: S) (by simpa using hs) (fun j hj => ?_) (fun j hj => ?_) ?_⟩
      · rw [(hS i h1).2 x] at h2; cases h2
      · have := h3 e he
        rw [Array.getD_eq_getD_getElem?] at this
        have hlt : e < listed.size := by
          refine Classical.byContradiction fun hn => ?_
          rw [Array.getElem?_eq_none (by omega)] at this
          simp at this
        refine (hS e (by omega)).1 ?_
        rw [Array.getD_eq_getD_getElem?]
        simp [hlt] at this ⊢
        exact this
      · rw [hget j]
        by_cases e : j = i
        · simp [e]
        · simp only [e, if_false, List.mem_cons, false_or]
          exact hS j hj
      · rcases List.mem_cons.1 hj with e | e
        · subst e; exact h1
        · exact hSb j e
      · -- one fewer is left
        have hlt := countP_lt' (p := fun j => !(listed.setIfInBounds i true).getD j true) (q := fun j => !listed.getD j true) (i := i) (fun j hj => by
          rw [hget j] at hj
          by_cases e : j = i
          · simp [e] at hj
          · simpa [e] using hj) (by rw [hget i]; simp) (by rw [h2]; rfl) (List.range ops.size) (List.mem_range.2 h1)
        omega

theorem lin_linearise (hbk : backward ops = true) (t : Nat) : LinC ops [] (Region.linearise .any ops t) := by
  unfold Region.linearise
  refine lin_go hbk ops.size t _ [] (by simp) (fun i hi => ?_) (fun i hi => by cases hi) ?_
  · simp [Array.getD_eq_getD_getElem?, hi]
  · exact Nat.le_trans List.countP_le_length (by simp)

/-- A region under way: those of S are done; whatever order follows. -/
def UD (P : Program) (F : Hp) (N : Nat) (C : Ctx) (O ops : Array Oper) (S : List Nat) (k : List Item) (l : TL) (ds : List Deferred) (h : Hp) : Prop :=
  ∀ js, LinC O S js → ∀ a, Env N l a → a.defers = ds → C.run P F a (.inRegion ops js :: k) h

theorem ur_draw {n : Nat} (hm : P.follows .mixedOrders = true) (hbk : backward ops = true) (H : UD P F N C ops ops [] k l ds h) : UR P F N C (.code (.region n ops true) :: k) l ds h := by
  intro a e hd
  refine Run.step fun w f => ?_
  refine ⟨fat C.b a (.inRegion ops (Region.schedule (P.follows .mixedOrders) ops (w.tape w.drawn (.order C.b.fn n))) :: k), C.cs, h, { w with drawn := w.drawn + 1 }, #[], ?_, ?_, ?_⟩
  · simp [StepTo, stepG, stepG.exec, fat, choose, Sem.run, Question.forced, Question.cut]
  · exact ⟨⟨f.own, f.ro, f.dj⟩, fun _ _ _ => rfl, Nat.le_refl _, fun _ e => .inl e, ⟨rfl, rfl, rfl⟩, fun e he => by simp at he⟩
  · refine H _ ?_ a e hd
    simp only [Region.schedule, hm, Bool.true_or, if_true]
    exact lin_linearise hbk _

/-- All are done. -/
theorem ud_end {O : Array Oper} {S : List Nat} (hS : (List.range O.size).all (fun i => S.contains i) = true) (H : UR P F N C k l ds h) : UD P F N C O ops S k l ds h := by
  intro js hl a e hd
  have hS' : ∀ i, i < O.size → i ∈ S := fun i hi => by
    rw [List.all_eq_true] at hS
    simpa using hS i (List.mem_range.2 hi)
  cases js with
  | nil => exact ur_region_end H a e hd
  | cons j js => exact absurd (hS' j hl.2.1) hl.1
end Go.BL
