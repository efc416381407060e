/- The loops over picks, as plain functions. -/
import Derived.Test.YtnfcoikbkmhggaaGreatPick
set_option linter.all false
set_option linter.unusedVariables false
set_option linter.unusedSimpArgs false
namespace Go.BL
def Sd.picks (s : Sd) (ps : List Int) : Sd := ps.foldl (fun s p => (s.pick p).1) s
def Sd.finish : Nat → Sd → Int → Sd × Nat
  | 0, s, _ => (s, 0)
  | k + 1, s, t => if s.busy t then (((s.pick t).1.finish k t).1, ((s.pick t).1.finish k t).2 + 1) else (s, 0)
def Sd.passL (s : Sd) (n : Nat) : List Int → Sd × Nat × Bool
  | [] => (s, n, false)
  | t :: ts => if s.idle then (s, n, true) else (s.pick t).1.passL (if (s.pick t).2 then n + 1 else n) ts
def Sd.allN : Nat → Sd → List Int → Nat → Option (Sd × Nat)
  | 0, _, _, _ => none
  | k + 1, s, o, n =>
    if (s.passL n o).2.2 then some ((s.passL n o).1, (s.passL n o).2.1)
    else if (s.passL n o).2.1 > n then (s.passL n o).1.allN k o (s.passL n o).2.1
    else some ((s.passL n o).1, (s.passL n o).2.1)
/-- What is kept by picks, and bears them. -/
structure Sd.Inv (I : Sd → Prop) (φ : Sd → Nat) (c : Cf) : Prop where
  can : ∀ s, I s → s.Can
  pick : ∀ s i, I s → I (s.pick i).1
  cf : ∀ s, I s → s.c = c
  bnd : ∀ s, I s → φ s < 2 ^ 29
  dec : ∀ s i, I s → (s.pick i).2 = true → φ (s.pick i).1 < φ s
theorem Sd.pick_false (s : Sd) (i : Int) (h : (s.pick i).2 = false) : (s.pick i).1 = s := by
  by_cases hi : i < 0 ∨ (s.ths.length : Int) ≤ i
  · rw [Sd.pick_out hi]
  · obtain ⟨j, rfl⟩ := Int.eq_ofNat_of_zero_le (show 0 ≤ i by omega)
    have hj : j < s.ths.length := by omega
    obtain ⟨t, ht⟩ : ∃ t, s.ths[j]? = some t := ⟨_, List.getElem?_eq_getElem hj⟩
    by_cases hid : t.idle = true
    · rw [Sd.pick_idle ht hid]
    · obtain ⟨left, what, now⟩ := t
      cases now with
      | some m => rw [Sd.pick_some ht rfl] at h; cases h
      | none =>
        cases left with
        | nil => exact absurd rfl hid
        | cons x xs =>
          rw [Sd.pick_begin ht] at h
          split at h <;> cases h
theorem Sd.stepT_n (s : Sd) (i : Nat) (t : Th) (m : Mc) : (s.stepT i t m).n ≤ s.n + 1 ∧ (s.stepT i t m).evs.length ≤ s.evs.length + 1 ∧ (s.stepT i t m).c = s.c ∧ (s.stepT i t m).ths.length = s.ths.length := by
  unfold Sd.stepT Sd.tell
  dsimp only
  split <;> dsimp only <;> refine ⟨?_, ?_, ?_, ?_⟩ <;> first | rfl | (split <;> omega) | simp
theorem Sd.pick_n (s : Sd) (i : Int) : (s.pick i).1.n ≤ s.n + (if (s.pick i).2 then 1 else 0) ∧ (s.pick i).1.evs.length ≤ s.evs.length + (if (s.pick i).2 then 2 else 0) ∧ (s.pick i).1.c = s.c ∧ (s.pick i).1.ths.length = s.ths.length := by
  by_cases hi : i < 0 ∨ (s.ths.length : Int) ≤ i
  · rw [Sd.pick_out hi]; simp
  · obtain ⟨j, rfl⟩ := Int.eq_ofNat_of_zero_le (show 0 ≤ i by omega)
    have hj : j < s.ths.length := by omega
    obtain ⟨t, ht⟩ : ∃ t, s.ths[j]? = some t := ⟨_, List.getElem?_eq_getElem hj⟩
    by_cases hid : t.idle = true
    · rw [Sd.pick_idle ht hid]; simp
    · obtain ⟨left, what, now⟩ := t
      cases now with
      | some m =>
        rw [Sd.pick_some ht rfl]
        have := s.stepT_n j ⟨left, what, some m⟩ m
        simp only [if_true]
        exact ⟨this.1, by omega, this.2.2⟩
      | none =>
        cases left with
        | nil => exact absurd rfl hid
        | cons x xs =>
          rw [Sd.pick_begin ht]
          by_cases hck : s.c.check x = 0
          · simp only [hck, if_true]
            have := Sd.stepT_n ({ { s with ths := s.ths.set j ⟨xs, x, none⟩ }.tell j 1 x .zero with ths := s.ths.set j ⟨xs, x, some (s.c.newMc j x)⟩ } : Sd) j ⟨xs, x, some (s.c.newMc j x)⟩ (s.c.newMc j x)
            exact ⟨this.1, Nat.le_trans this.2.1 (by simp [Sd.tell]), this.2.2.1, this.2.2.2.trans (by simp [Sd.tell])⟩
          · simp only [hck, if_false, if_true]
            refine ⟨?_, ?_, ?_, ?_⟩ <;> simp [Sd.tell]
theorem Sd.passL_n : ∀ (ts : List Int) (s : Sd) (n : Nat), n ≤ (s.passL n ts).2.1
  | [], _, _ => Nat.le_refl _
  | t :: ts, s, n => by
    unfold Sd.passL
    split
    · exact Nat.le_refl _
    · have := Sd.passL_n ts (s.pick t).1 (if (s.pick t).2 then n + 1 else n)
      by_cases hp : (s.pick t).2 = true
      · rw [if_pos hp] at this ⊢; omega
      · rw [if_neg hp] at this ⊢; exact this
theorem Sd.allN_n : ∀ (k : Nat) (s : Sd) (o : List Int) (n : Nat) (r : Sd × Nat), s.allN k o n = some r → (s.passL n o).2.1 ≤ r.2
  | 0, _, _, _, _, h => by cases h
  | k + 1, s, o, n, r, h => by
    unfold Sd.allN at h
    split at h
    · cases h; exact Nat.le_refl _
    · split at h
      · have h1 := Sd.allN_n k _ _ _ _ h
        have h2 := Sd.passL_n o (s.passL n o).1 (s.passL n o).2.1
        omega
      · cases h; exact Nat.le_refl _
end Go.BL
namespace Go.Proofs
open Go.BL
variable {F h : Hp} {c : Cf} {A : CA} {L : List HProp}
/-- Rows of calls that lie in what is read alone. -/
def RdCs (F : Hp) (a : Option Addr) (cs : List (List Cl)) : Prop := ∃ vs : List (Option Addr × Nat), vs.length = cs.length ∧ RdSl F 1 a cs.length (List.zipWith (fun v l => Value.slice v.1 l.length v.2) vs cs) ∧
  ∀ (i : Nat) v l, vs[i]? = some v → cs[i]? = some l → RdSl F 3 v.1 l.length (clsv l)
theorem RdCs.mono {F' : Hp} {a : Option Addr} {cs : List (List Cl)} (hF : Hp.le F F') (R : RdCs F a cs) : RdCs F' a cs := by
  obtain ⟨vs, h1, h2, h3⟩ := R
  exact ⟨vs, h1, h2.mono hF, fun i v l a b => (h3 i v l a b).mono hF⟩
theorem RdCs.at {a : Option Addr} {cs : List (List Cl)} (R : RdCs F a cs) {i : Nat} {l : List Cl} (hl : cs[i]? = some l) :
    ∃ b off xs T fr la lc, a = some ⟨b, off, none⟩ ∧ F b = some (.cells (List.toArray xs) T fr) ∧ xs[off + i]? = some (.slice la l.length lc) ∧ RdSl F 3 la l.length (clsv l) := by
  obtain ⟨vs, h1, h2, h3⟩ := R
  have hi := (List.getElem?_eq_some_iff.1 hl).1
  obtain ⟨v, hv⟩ : ∃ v, vs[i]? = some v := ⟨_, List.getElem?_eq_getElem (by omega)⟩
  obtain ⟨b, off, xs, T, fr, e1, e2, e3⟩ := RdSl.at1 h2 (i := i) (v := .slice v.1 l.length v.2) (by simp [List.getElem?_zipWith, hv, hl])
  exact ⟨b, off, xs, T, fr, v.1, v.2, e1, e2, e3, h3 i v l hv hl⟩
theorem ones_cls : ∀ l : List Cl, ones (clsv l) = true
  | [] => rfl
  | e :: l => by
    have : clsv (e :: l) = clv e ++ clsv l := by simp [clsv]
    rw [this, ones_append, ones_cls l]; rfl
theorem ThsR.snoc : ∀ {bs : List Nat} {ths : List Th} {b : Nat} {t : Th} {L : List HProp} {h : Hp}, Own (ThsR bs ths :: ThR b t :: L) h → Own (ThsR (bs ++ [b]) (ths ++ [t]) :: L) h
  | [], [], b, t, L, h, H => Own.fold (A := ThsR [b] [t]) [1, 0] H fun _ o => o
  | [], _ :: _, _, _, _, _, H => by obtain ⟨_, _, _, _, o, _⟩ := H; exact o.elim
  | _ :: _, [], _, _, _, _, H => by obtain ⟨_, _, _, _, o, _⟩ := H; exact o.elim
  | b' :: bs, u :: ths, b, t, L, h, H => by
    obtain ⟨h1, h2, d, l, o1, o2⟩ := H
    have H' : Own (ThR b' u :: ThsR bs ths :: ThR b t :: L) h := Own.join d l o1 o2
    have H2 := ThsR.snoc (L := ThR b' u :: L) (H'.bring [1, 1])
    exact Own.fold (A := ThsR (b' :: (bs ++ [b])) (u :: (ths ++ [t]))) [1, 0] H2 fun _ o => o
theorem LfR.ofSl {la : Option Addr} {n lc : Nat} {cs : List Value} (hn : la = none → cs = []) (H : Own (SlR 70 3 la n lc cs :: L) h) : Own (LfR la cs :: L) h := by
  obtain ⟨h1, h2, d, l, ⟨q1, q2, q3⟩, o⟩ := H
  refine ⟨h1, h2, d, l, ?_, o⟩
  rcases q3 with ⟨rfl, rfl, rfl⟩ | ⟨b, off, pre, rest, e1, e2, e3, e4⟩
  · exact .inl ⟨rfl, hn rfl⟩
  · exact .inr ⟨b, off, pre, rest, e1, e2, e4⟩
theorem SlR.nil_cs {e size n lc : Nat} {la : Option Addr} {cs : List Value} (H : Own (SlR e size la n lc cs :: L) h) : n ≤ lc ∧ (la = none → cs = []) := by
  obtain ⟨h1, h2, d, l, ⟨q1, q2, q3⟩, o⟩ := H
  refine ⟨q2, fun e => ?_⟩
  rcases q3 with ⟨rfl, rfl, rfl⟩ | ⟨b, off, pre, rest, e1, _⟩
  · apply List.length_eq_zero_iff.1; simpa using q1
  · rw [e] at e1; cases e1
end Go.Proofs
