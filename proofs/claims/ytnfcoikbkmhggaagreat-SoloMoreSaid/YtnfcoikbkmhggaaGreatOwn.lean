/- What is owned, as a list of parts that do not meet. -/
import Derived.Test.YtnfcoikbkmhggaaGreatCode
set_option linter.all false
set_option linter.unusedVariables false
set_option linter.unusedSimpArgs false
namespace Go.BL

abbrev HProp := Hp → Prop
/-- Block b holds o. -/
def pt (b : Nat) (o : Obj) : HProp := fun h => h b = some o

/-- h has the parts, and maybe more. -/
def Own : List HProp → Hp → Prop
  | [], _ => True
  | A :: L, h => ∃ h1 h2, Hp.dj h1 h2 ∧ Hp.le (Hp.un h1 h2) h ∧ A h1 ∧ Own L h2

theorem Own.mono : ∀ {L : List HProp} {h h' : Hp}, Hp.le h h' → Own L h → Own L h'
  | [], _, _, _, _ => trivial
  | _ :: _, _, _, hl, ⟨h1, h2, d, l, a, o⟩ => ⟨h1, h2, d, Hp.le_trans l hl, a, o⟩

theorem Own.nil {h : Hp} : Own [] h := trivial

theorem Own.cons {A : HProp} {L : List HProp} {h1 h2 : Hp} (d : Hp.dj h1 h2) (a : A h1) (o : Own L h2) : Own (A :: L) (Hp.un h1 h2) := ⟨h1, h2, d, Hp.le_refl _, a, o⟩

theorem Own.swap {A B : HProp} {L : List HProp} {h : Hp} : Own (A :: B :: L) h → Own (B :: A :: L) h := by
  rintro ⟨h1, h2, d, l, a, h3, h4, d2, l2, b, o⟩
  have d13 : Hp.dj h1 h3 := Hp.dj_mono d (Hp.le_refl _) (Hp.le_trans (Hp.le_un_l _ _) l2)
  have d14 : Hp.dj h1 h4 := Hp.dj_mono d (Hp.le_refl _) (Hp.le_trans (Hp.le_un_r d2) l2)
  refine ⟨h3, Hp.un h1 h4, Hp.dj_un_r (Hp.dj_symm d13) d2, ?_, b, h1, h4, d14, Hp.le_refl _, a, o⟩
  refine Hp.un_le (Hp.le_trans (Hp.le_trans (Hp.le_un_l _ _) l2) (Hp.le_trans (Hp.le_un_r d) l)) (Hp.un_le (Hp.le_trans (Hp.le_un_l _ _) l) ?_)
  exact Hp.le_trans (Hp.le_trans (Hp.le_un_r d2) l2) (Hp.le_trans (Hp.le_un_r d) l)

theorem Own.tail {A : HProp} {L : List HProp} {h : Hp} : Own (A :: L) h → Own L h
  | ⟨_, _, d, l, _, o⟩ => o.mono (Hp.le_trans (Hp.le_un_r d) l)
theorem Own.head {A : HProp} {L : List HProp} {h : Hp} : Own (A :: L) h → ∃ h1, Hp.le h1 h ∧ A h1
  | ⟨h1, _, _, l, a, _⟩ => ⟨h1, Hp.le_trans (Hp.le_un_l _ _) l, a⟩

theorem Own.perm {L L' : List HProp} (p : L.Perm L') : ∀ {h : Hp}, Own L h → Own L' h := by
  induction p with
  | nil => exact fun o => o
  | cons A _ ih => exact fun ⟨h1, h2, d, l, a, o⟩ => ⟨h1, h2, d, l, a, ih o⟩
  | swap A B L => exact fun o => o.swap
  | trans _ _ ih1 ih2 => exact fun o => ih2 (ih1 o)

theorem Own.append {L1 L2 : List HProp} : ∀ {h : Hp}, Own (L1 ++ L2) h → ∃ h1 h2, Hp.dj h1 h2 ∧ Hp.le (Hp.un h1 h2) h ∧ Own L1 h1 ∧ Own L2 h2 := by
  induction L1 with
  | nil => exact fun {h} o => ⟨Hp.emp, h, Hp.dj_emp_l _, by rw [Hp.un_emp_l]; exact Hp.le_refl _, trivial, o⟩
  | cons A L1 ih =>
    rintro h ⟨h1, h2, d, l, a, o⟩
    obtain ⟨h3, h4, d2, l2, o1, o2⟩ := ih o
    have d13 : Hp.dj h1 h3 := Hp.dj_mono d (Hp.le_refl _) (Hp.le_trans (Hp.le_un_l _ _) l2)
    have d14 : Hp.dj h1 h4 := Hp.dj_mono d (Hp.le_refl _) (Hp.le_trans (Hp.le_un_r d2) l2)
    refine ⟨Hp.un h1 h3, h4, Hp.dj_un_l d14 d2, ?_, ⟨h1, h3, d13, Hp.le_refl _, a, o1⟩, o2⟩
    rw [Hp.un_assoc]
    exact Hp.le_trans (Hp.un_le (Hp.le_un_l _ _) (Hp.le_trans l2 (Hp.le_un_r d))) l

theorem Own.join {L1 L2 : List HProp} : ∀ {h1 h2 h : Hp}, Hp.dj h1 h2 → Hp.le (Hp.un h1 h2) h → Own L1 h1 → Own L2 h2 → Own (L1 ++ L2) h := by
  induction L1 with
  | nil => exact fun {h1 h2 h} d l _ o2 => o2.mono (Hp.le_trans (Hp.le_un_r d) l)
  | cons A L1 ih =>
    rintro h1 h2 h d l ⟨h3, h4, d2, l2, a, o1⟩ o2
    have d32 : Hp.dj h3 h2 := Hp.dj_mono d (Hp.le_trans (Hp.le_un_l _ _) l2) (Hp.le_refl _)
    have d42 : Hp.dj h4 h2 := Hp.dj_mono d (Hp.le_trans (Hp.le_un_r d2) l2) (Hp.le_refl _)
    refine ⟨h3, Hp.un h4 h2, Hp.dj_un_r d2 d32, ?_, a, ih d42 (Hp.le_refl _) o1 o2⟩
    rw [← Hp.un_assoc]
    refine Hp.le_trans (Hp.un_le (Hp.le_trans l2 (Hp.le_un_l _ _)) (Hp.le_un_r d)) l

/-- A block among the parts. -/
class Has (L : List HProp) (b : Nat) (o : outParam Obj) : Prop where
  has : ∀ {h}, Own L h → h b = some o
instance (priority := high) {b : Nat} {o : Obj} {L : List HProp} : Has (pt b o :: L) b o := ⟨fun H => let ⟨_, l, a⟩ := H.head; l b o a⟩
instance {A : HProp} {b : Nat} {o : Obj} {L : List HProp} [i : Has L b o] : Has (A :: L) b o := ⟨fun H => i.has H.tail⟩

/-- A block among the parts, turned. -/
class Upd (L : List HProp) (b : Nat) (o : outParam Obj) (o' : Obj) (L' : outParam (List HProp)) : Prop where
  upd : ∀ {h}, Own L h → h b = some o ∧ Own L' (h.set b o')
theorem Hp.set_le {h1 h : Hp} {b : Nat} {o : Obj} (l : Hp.le h1 h) : Hp.le (h1.set b o) (h.set b o) := fun n x e => by
  by_cases hn : n = b
  · subst hn; rw [Hp.set_same] at e ⊢; exact e
  · rw [Hp.set_other _ _ hn] at e ⊢; exact l n x e
instance (priority := high) {b : Nat} {o o' : Obj} {L : List HProp} : Upd (pt b o :: L) b o o' (pt b o' :: L) := ⟨by
  rintro h ⟨h1, h2, d, l, a, ho⟩
  have hb : h b = some o := l b o (Hp.le_un_l _ _ b o a)
  have h2b : h2 b = none := by
    rcases d b with x | x
    · rw [a] at x; cases x
    · exact x
  refine ⟨hb, h1.set b o', h2, fun n => ?_, ?_, Hp.set_same _ _ _, ho⟩
  · by_cases hn : n = b
    · subst hn; exact .inr h2b
    · rw [Hp.set_other _ _ hn]; exact d n
  · refine Hp.un_le (Hp.set_le (Hp.le_trans (Hp.le_un_l _ _) l)) fun n x e => ?_
    have hn : n ≠ b := by intro y; subst y; rw [h2b] at e; cases e
    rw [Hp.set_other _ _ hn]
    exact l n x (Hp.le_un_r d n x e)⟩
instance {A : HProp} {b : Nat} {o o' : Obj} {L L' : List HProp} [i : Upd L b o o' L'] : Upd (A :: L) b o o' (A :: L') := ⟨by
  rintro h ⟨h1, h2, d, l, a, ho⟩
  obtain ⟨hb, ho'⟩ := i.upd ho
  have h1b : h1 b = none := by
    rcases d b with x | x
    · exact x
    · rw [hb] at x; cases x
  refine ⟨l b o (Hp.le_un_r d b o hb), h1, h2.set b o', fun n => ?_, ?_, a, ho'⟩
  · by_cases hn : n = b
    · subst hn; exact .inl h1b
    · rw [Hp.set_other _ _ hn]; exact d n
  · refine Hp.un_le (fun n x e => ?_) (Hp.set_le (Hp.le_trans (Hp.le_un_r d) l))
    have hn : n ≠ b := by intro y; subst y; rw [h1b] at e; cases e
    rw [Hp.set_other _ _ hn]
    exact l n x (Hp.le_un_l _ _ n x e)⟩

theorem Own.new {L : List HProp} {h : Hp} {b : Nat} {o : Obj} (hb : h b = none) (H : Own L h) : Own (pt b o :: L) (h.set b o) := by
  refine ⟨Hp.one b o, h, fun n => ?_, fun n x e => ?_, by simp [pt, Hp.one], H⟩
  · by_cases hn : n = b
    · subst hn; exact .inr hb
    · exact .inl (by simp [Hp.one, hn])
  · by_cases hn : n = b
    · subst hn
      simp [Hp.un, Hp.one] at e
      rw [Hp.set_same, e]
    · rw [Hp.set_other _ _ hn]
      simpa [Hp.un, Hp.one, hn] using e

/-- Some parts, by their places; the others. -/
def pickL (is : List Nat) (L : List HProp) : List HProp := is.filterMap (L[·]?)
def dropL : List Nat → List HProp → List HProp
  | [], L => L
  | i :: is, L => dropL is (L.eraseIdx i)
/-- Part i, the ones behind counted anew at each taking. -/
def takeL : List Nat → List HProp → List HProp
  | [], _ => []
  | i :: is, L => (match L[i]? with | some A => [A] | none => []) ++ takeL is (L.eraseIdx i)
theorem perm_erase : ∀ (L : List HProp) (i : Nat) (hi : i < L.length), L.Perm (L[i] :: L.eraseIdx i)
  | [], i, hi => by simp at hi
  | A :: L, 0, _ => .refl _
  | A :: L, i + 1, hi => by
    simp only [List.getElem_cons_succ, List.eraseIdx_cons_succ]
    exact ((perm_erase L i (by simpa using hi)).cons A).trans (.swap _ _ _)
theorem take_perm : ∀ (is : List Nat) (L : List HProp), L.Perm (takeL is L ++ dropL is L)
  | [], L => .refl _
  | i :: is, L => by
    unfold takeL dropL
    cases e : L[i]? with
    | none =>
      have : L.eraseIdx i = L := List.eraseIdx_of_length_le (by simpa using e)
      simp only [List.nil_append, this]
      exact take_perm is L
    | some A =>
      obtain ⟨hi, rfl⟩ := List.getElem?_eq_some_iff.1 e
      simp only [List.cons_append, List.nil_append]
      have p1 : L.Perm (L[i] :: L.eraseIdx i) := perm_erase L i hi
      exact p1.trans ((take_perm is (L.eraseIdx i)).cons _)
theorem Own.take {L : List HProp} {h : Hp} (is : List Nat) (H : Own L h) : ∃ h1 h2, Hp.dj h1 h2 ∧ Hp.le (Hp.un h1 h2) h ∧ Own (takeL is L) h1 ∧ Own (dropL is L) h2 :=
  (H.perm (take_perm is L)).append
end Go.BL
