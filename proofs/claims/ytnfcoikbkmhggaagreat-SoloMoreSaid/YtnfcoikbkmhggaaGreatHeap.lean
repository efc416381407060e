/- Partial heaps, what a world fits, what a step keeps, and runs of a piece of the operational model over them: the ground of all that follows. -/
import Derived.Control
import Derived.Conc.Events
set_option linter.all false
set_option linter.unusedVariables false
set_option linter.unusedSimpArgs false
namespace Go.BL

/-- A partial heap: of each block what it holds, where that is known. -/
abbrev Hp := Nat → Option Obj

namespace Hp
def emp : Hp := fun _ => none
def dj (a b : Hp) : Prop := ∀ n, a n = none ∨ b n = none
def un (a b : Hp) : Hp := fun n => match a n with | some o => some o | none => b n
def le (a b : Hp) : Prop := ∀ n o, a n = some o → b n = some o
def set (h : Hp) (b : Nat) (o : Obj) : Hp := fun n => if n = b then some o else h n
def one (b : Nat) (o : Obj) : Hp := fun n => if n = b then some o else none

theorem le_refl (a : Hp) : le a a := fun _ _ h => h
theorem le_trans {a b c : Hp} (h : le a b) (g : le b c) : le a c := fun n o e => g n o (h n o e)
theorem emp_le (a : Hp) : le emp a := fun _ _ h => by cases h
theorem le_un_l (a b : Hp) : le a (un a b) := fun n o h => by simp [un, h]
theorem le_un_r {a b : Hp} (hd : dj a b) : le b (un a b) := fun n o h => by
  rcases hd n with e | e
  · simp [un, e, h]
  · simp [e] at h
theorem un_le {a b c : Hp} (h : le a c) (g : le b c) : le (un a b) c := fun n o e => by
  unfold un at e
  cases ha : a n with
  | none => simp [ha] at e; exact g n o e
  | some x => simp [ha] at e; subst e; exact h n x ha
theorem dj_symm {a b : Hp} (h : dj a b) : dj b a := fun n => (h n).symm
theorem dj_emp_l (a : Hp) : dj emp a := fun _ => .inl rfl
theorem dj_emp_r (a : Hp) : dj a emp := fun _ => .inr rfl
theorem dj_mono {a b a' b' : Hp} (h : dj a b) (ha : le a' a) (hb : le b' b) : dj a' b' := fun n => by
  rcases h n with e | e
  · left
    cases x : a' n with
    | none => rfl
    | some o => rw [ha n o x] at e; cases e
  · right
    cases x : b' n with
    | none => rfl
    | some o => rw [hb n o x] at e; cases e
theorem un_none {a b : Hp} {n : Nat} (ha : a n = none) (hb : b n = none) : un a b n = none := by simp [un, ha, hb]
theorem un_some {a b : Hp} {n : Nat} {o : Obj} (h : un a b n = some o) : a n = some o ∨ (a n = none ∧ b n = some o) := by
  unfold un at h
  cases ha : a n with
  | none => simp [ha] at h; exact .inr ⟨rfl, h⟩
  | some x => simp [ha] at h; exact .inl (by rw [h])
theorem dj_un_l {a b c : Hp} (h : dj a c) (g : dj b c) : dj (un a b) c := fun n => by
  rcases h n with e | e
  · rcases g n with f | f
    · exact .inl (un_none e f)
    · exact .inr f
  · exact .inr e
theorem dj_un_r {a b c : Hp} (h : dj a b) (g : dj a c) : dj a (un b c) := dj_symm (dj_un_l (dj_symm h) (dj_symm g))
theorem un_comm {a b : Hp} (h : dj a b) : un a b = un b a := by
  funext n
  rcases h n with e | e <;> simp [un, e]
  · cases b n <;> rfl
  · cases a n <;> rfl
theorem un_assoc (a b c : Hp) : un (un a b) c = un a (un b c) := by
  funext n
  unfold un
  cases a n <;> rfl
theorem un_emp_l (a : Hp) : un emp a = a := rfl
theorem un_emp_r (a : Hp) : un a emp = a := by funext n; unfold un emp; cases a n <;> rfl
theorem set_same (h : Hp) (b : Nat) (o : Obj) : set h b o b = some o := by simp [set]
theorem set_other (h : Hp) {b n : Nat} (o : Obj) (hn : n ≠ b) : set h b o n = h n := by simp [set, hn]
theorem le_none {a b : Hp} (h : le a b) {n : Nat} (e : b n = none) : a n = none := by
  cases x : a n with
  | none => rfl
  | some o => rw [h n o x] at e; cases e
end Hp

/-- A world holds the two heaps, which do not meet: h, the own one, and F, which nobody turns. -/
structure Fits (F h : Hp) (w : World) : Prop where
  own : ∀ b o, h b = some o → w.heap[b]? = some o
  ro : ∀ b o, F b = some o → w.heap[b]? = some o
  dj : Hp.dj F h

theorem Fits.lt {F h : Hp} {w : World} (f : Fits F h w) {b : Nat} (hb : h b ≠ none) : b < w.heap.size := by
  cases e : h b with
  | none => exact absurd e hb
  | some o => exact (Array.getElem?_eq_some_iff.1 (f.own b o e)).1
theorem Fits.lt_ro {F h : Hp} {w : World} (f : Fits F h w) {b : Nat} (hb : F b ≠ none) : b < w.heap.size := by
  cases e : F b with
  | none => exact absurd e hb
  | some o => exact (Array.getElem?_eq_some_iff.1 (f.ro b o e)).1
theorem Fits.get {F h : Hp} {w : World} (f : Fits F h w) {b : Nat} {o : Obj} (hb : h b = some o ∨ F b = some o) : w.heap[b]? = some o :=
  hb.elim (f.own b o) (f.ro b o)
theorem Fits.new {F h : Hp} {w : World} (f : Fits F h w) : h w.heap.size = none ∧ F w.heap.size = none := by
  constructor
  · cases e : h w.heap.size with
    | none => rfl
    | some o => have := f.own _ _ e; simp at this
  · cases e : F w.heap.size with
    | none => rfl
    | some o => have := f.ro _ _ e; simp at this
theorem Fits.mono {F h F' h' : Hp} {w : World} (f : Fits F h w) (hF : Hp.le F' F) (hh : Hp.le h' h) : Fits F' h' w :=
  ⟨fun b o e => f.own b o (hh b o e), fun b o e => f.ro b o (hF b o e), Hp.dj_mono f.dj hF hh⟩

/-- What one access may touch: what is owned, what is new, and, to be read, what nobody turns. -/
def EvOK (F h : Hp) (n : Nat) (e : Event) : Prop :=
  match e.loc with
  | .cell a => e.sync = false ∧ (h a.block ≠ none ∨ n ≤ a.block ∨ (e.write = false ∧ F a.block ≠ none))
  | .obj r => e.sync = false ∧ (h r ≠ none ∨ n ≤ r ∨ (e.write = false ∧ F r ≠ none))
  | .mark m => m = .noRoom ∨ ∃ f, m = .extern f
  | _ => False

/-- What a step, or some, did: the two heaps are held behind it; what was not owned lies as it lay. -/
structure Guar (F h : Hp) (w : World) (h' : Hp) (w' : World) (es : Array Event) : Prop where
  fits : Fits F h' w'
  keep : ∀ b, b < w.heap.size → h b = none → w'.heap[b]? = w.heap[b]?
  size : w.heap.size ≤ w'.heap.size
  dom : ∀ b, h' b ≠ none → h b ≠ none ∨ w.heap.size ≤ b
  rest : w'.tape = w.tape ∧ w'.os = w.os ∧ w'.output = w.output
  evs : ∀ e ∈ es, EvOK F h w.heap.size e

theorem Guar.refl {F h : Hp} {w : World} (f : Fits F h w) : Guar F h w h w #[] :=
  ⟨f, fun _ _ _ => rfl, Nat.le_refl _, fun _ e => .inl e, ⟨rfl, rfl, rfl⟩, fun e he => by simp at he⟩

theorem Guar.trans {F h h1 h2 : Hp} {w w1 w2 : World} {es1 es2 : Array Event} (g : Guar F h w h1 w1 es1) (g2 : Guar F h1 w1 h2 w2 es2) : Guar F h w h2 w2 (es1 ++ es2) := by
  refine ⟨g2.fits, fun b hb e => ?_, Nat.le_trans g.size g2.size, fun b e => ?_, ⟨g2.rest.1.trans g.rest.1, g2.rest.2.1.trans g.rest.2.1, g2.rest.2.2.trans g.rest.2.2⟩, fun e he => ?_⟩
  · have h1n : h1 b = none := by
      cases x : h1 b with
      | none => rfl
      | some o => rcases g.dom b (by simp [x]) with y | y
                  · exact absurd e y
                  · omega
    rw [g2.keep b (Nat.lt_of_lt_of_le hb g.size) h1n, g.keep b hb e]
  · rcases g2.dom b e with y | y
    · exact g.dom b y
    · exact .inr (Nat.le_trans g.size y)
  · rcases Array.mem_append.1 he with x | x
    · exact g.evs e x
    · have y := g2.evs e x
      have hs := g.size
      unfold EvOK at y ⊢
      split <;> simp_all
      · rcases y.2 with z | z | z
        · rcases g.dom _ z with u | u
          · exact .inl u
          · exact .inr (.inl u)
        · exact .inr (.inl (by omega))
        · exact .inr (.inr z)
      · rcases y.2 with z | z | z
        · rcases g.dom _ z with u | u
          · exact .inl u
          · exact .inr (.inl u)
        · exact .inr (.inl (by omega))
        · exact .inr (.inr z)

theorem EvOK.frame {F h h2 : Hp} {n : Nat} {e : Event} (y : EvOK F h n e) : EvOK F (Hp.un h h2) n e := by
  unfold EvOK at y ⊢
  split <;> simp_all
  · rcases y.2 with z | z | z
    · exact .inl (by unfold Hp.un; revert z; cases h _ <;> simp)
    · exact .inr (.inl z)
    · exact .inr (.inr z)
  · rcases y.2 with z | z | z
    · exact .inl (by unfold Hp.un; revert z; cases h _ <;> simp)
    · exact .inr (.inl z)
    · exact .inr (.inr z)

/-- What else is owned is not touched: the frame. -/
theorem Guar.frame {F h h' h2 : Hp} {w w' : World} {es : Array Event} (f : Fits F (Hp.un h h2) w) (d : Hp.dj h h2) (g : Guar F h w h' w' es) :
    Guar F (Hp.un h h2) w (Hp.un h' h2) w' es ∧ Hp.dj h' h2 := by
  have d' : Hp.dj h' h2 := fun n => by
    cases x : h' n with
    | none => exact .inl rfl
    | some o =>
      refine .inr ?_
      cases y : h2 n with
      | none => rfl
      | some o2 =>
        rcases g.dom n (by simp [x]) with z | z
        · rcases d n with u | u
          · exact absurd u z
          · rw [u] at y; cases y
        · have := (Array.getElem?_eq_some_iff.1 (f.own n o2 (Hp.le_un_r d n o2 y))).1
          omega
  refine ⟨⟨⟨fun b o e => ?_, g.fits.ro, ?_⟩, fun b hb e => ?_, g.size, fun b e => ?_, g.rest, fun e he => (g.evs e he).frame⟩, d'⟩
  · rcases Hp.un_some e with x | ⟨x, y⟩
    · exact g.fits.own b o x
    · have hn : h b = none := by
        rcases d b with u | u
        · exact u
        · rw [u] at y; cases y
      have hw := f.own b o (Hp.le_un_r d b o y)
      rw [g.keep b (Array.getElem?_eq_some_iff.1 hw).1 hn, hw]
  · exact Hp.dj_un_r g.fits.dj (Hp.dj_mono f.dj (Hp.le_refl _) (Hp.le_un_r d))
  · have hn : h b = none := Hp.le_none (Hp.le_un_l h h2) e
    exact g.keep b hb hn
  · cases x : h' b with
    | none =>
      cases y : h2 b with
      | none => exact absurd (Hp.un_none x y) e
      | some o => exact .inl (by rw [Hp.le_un_r d b o y]; simp)
    | some o =>
      rcases g.dom b (by simp [x]) with z | z
      · left
        cases u : h b with
        | none => exact absurd u z
        | some o2 => rw [Hp.le_un_l h h2 b o2 u]; simp
      · exact .inr z

/-- What is owned may be handed on as what nobody turns, for a while. -/
theorem Guar.thaw {F hr h h' : Hp} {w w' : World} {es : Array Event} (f : Fits F (Hp.un hr h) w) (d : Hp.dj hr h) (g : Guar (Hp.un F hr) h w h' w' es) :
    Guar F (Hp.un hr h) w (Hp.un hr h') w' es ∧ Hp.dj hr h' := by
  have dF : Hp.dj F hr := Hp.dj_mono f.dj (Hp.le_refl _) (Hp.le_un_l _ _)
  have d' : Hp.dj hr h' := Hp.dj_mono g.fits.dj (Hp.le_un_r dF) (Hp.le_refl _)
  refine ⟨⟨⟨fun b o e => ?_, fun b o e => g.fits.ro b o (Hp.le_un_l _ _ b o e), ?_⟩, fun b hb e => ?_, g.size, fun b e => ?_, g.rest, fun e he => ?_⟩, d'⟩
  · rcases Hp.un_some e with x | ⟨_, y⟩
    · exact g.fits.ro b o (Hp.le_un_r dF b o x)
    · exact g.fits.own b o y
  · exact Hp.dj_un_r dF (Hp.dj_mono g.fits.dj (Hp.le_un_l _ _) (Hp.le_refl _))
  · exact g.keep b hb (Hp.le_none (Hp.le_un_r d) e)
  · cases x : hr b with
    | some o => exact .inl (by rw [Hp.le_un_l hr h b o x]; simp)
    | none =>
      have y : h' b ≠ none := by intro y; exact e (Hp.un_none x y)
      rcases g.dom b y with z | z
      · left
        cases u : h b with
        | none => exact absurd u z
        | some o2 => rw [Hp.le_un_r d b o2 u]; simp
      · exact .inr z
  · have y := g.evs e he
    have key : ∀ n, (h n ≠ none ∨ w.heap.size ≤ n ∨ (e.write = false ∧ Hp.un F hr n ≠ none)) → (Hp.un hr h n ≠ none ∨ w.heap.size ≤ n ∨ (e.write = false ∧ F n ≠ none)) := by
      intro n z
      rcases z with z | z | z
      · left
        cases u : h n with
        | none => exact absurd u z
        | some o2 => rw [Hp.le_un_r d n o2 u]; simp
      · exact .inr (.inl z)
      · cases u : F n with
        | some o2 => exact .inr (.inr ⟨z.1, by simp⟩)
        | none =>
          left
          cases v : hr n with
          | none => exact absurd (Hp.un_none u v) z.2
          | some o2 => rw [Hp.le_un_l hr h n o2 v]; simp
    unfold EvOK at y ⊢
    cases hl : e.loc <;> simp only [hl] at y ⊢
    · exact ⟨y.1, key _ y.2⟩
    · exact ⟨y.1, key _ y.2⟩
    · exact y

theorem Guar.mono_ro {F F' h h' : Hp} {w w' : World} {es : Array Event} (hF : Hp.le F F') (f : Fits F' h w) (g : Guar F h w h' w' es) : Guar F' h w h' w' es := by
  refine ⟨⟨g.fits.own, fun b o e => ?_, fun n => ?_⟩, g.keep, g.size, g.dom, g.rest, fun e he => ?_⟩
  · have hn : h b = none := by
      rcases f.dj b with x | x
      · rw [x] at e; cases e
      · exact x
    rw [g.keep b (f.lt_ro (by simp [e])) hn, f.ro b o e]
  · cases x : F' n with
    | none => exact .inl rfl
    | some o =>
      right
      cases y : h' n with
      | none => rfl
      | some o2 =>
        rcases g.dom n (by simp [y]) with z | z
        · rcases f.dj n with u | u
          · rw [u] at x; cases x
          · exact absurd u z
        · have := f.lt_ro (b := n) (by simp [x]); omega
  · have y := g.evs e he
    have key : ∀ n, F n ≠ none → F' n ≠ none := fun n z => by
      cases u : F n with
      | none => exact absurd u z
      | some o => rw [hF n o u]; simp
    unfold EvOK at y ⊢
    cases hl : e.loc <;> simp only [hl] at y ⊢
    · exact ⟨y.1, y.2.imp_right (Or.imp_right fun z => ⟨z.1, key _ z.2⟩)⟩
    · exact ⟨y.1, y.2.imp_right (Or.imp_right fun z => ⟨z.1, key _ z.2⟩)⟩
    · exact y

end Go.BL
