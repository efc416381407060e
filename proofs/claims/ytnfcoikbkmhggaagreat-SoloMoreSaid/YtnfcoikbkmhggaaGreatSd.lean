/- The scheduler's parts in memory. -/
import Derived.Test.YtnfcoikbkmhggaaGreatCalls
set_option linter.all false
set_option linter.unusedVariables false
set_option linter.unusedSimpArgs false
namespace Go.Proofs
open Go.BL
variable {F h : Hp} {c : Cf} {A : CA} {L : List HProp}

def LfR (la : Option Addr) (cs : List Value) : HProp := fun h => (la = none ∧ cs = []) ∨ ∃ b off pre rest, la = some ⟨b, off, none⟩ ∧ pre.length = off ∧ h b = some (.cells (pre ++ (cs ++ rest)).toArray 70 (0, 0))
def NowR (nv : Value) : Option Mc → HProp
  | none => fun _ => nv = .nilIface
  | some m => fun h => ∃ mb, nv = mcV mb m ∧ McR mb m h
abbrev thl (la : Option Addr) (n lc : Nat) (x : Cl) (nv : Value) : List Value := [.slice la n lc, .int .i64 x.kind, .int .i64 x.node, .int .i64 x.n, nv]
def ThR (b : Nat) (t : Th) : HProp := fun h => ∃ la lc nv, t.left.length ≤ lc ∧ Own [pt b (.cells (thl la t.left.length lc t.what nv).toArray 96 (0, 0)), LfR la (clsv t.left), NowR nv t.now] h
def ThsR : List Nat → List Th → HProp
  | [], [] => fun _ => True
  | b :: bs, t :: ts => fun h => Own [ThR b t, ThsR bs ts] h
  | _, _ => fun _ => False
abbrev ptrV (b : Nat) : Value := .pointer (some ⟨b, 0, none⟩)
abbrev sdl (c : Cf) (A : CA) (mb : Nat) (ta : Option Addr) (tn tc : Nat) (ea : Option Addr) (en ec : Nat) : List Value :=
  [.int .i64 c.threads, .int .i64 c.stripes, .int .i64 c.gate, .int .i64 c.lease, .int .i64 c.retry, .int .i64 c.tickets, .slice A.pa c.parents.length A.pc, .slice A.la c.limits.length A.lc, ptrV mb, .slice ta tn tc, .slice ea en ec]
def SdR (sb : Nat) (A : CA) (bs : List Nat) (s : Sd) : HProp := fun h => ∃ mb ta tc ea ec, bs.length = s.ths.length ∧
  Own [pt sb (.cells (sdl s.c A mb ta s.ths.length tc ea s.evs.length ec).toArray 92 (0, 0)), MemR mb s.ws s.n, SlR 97 1 ta s.ths.length tc (bs.map ptrV), SlR 75 10 ea s.evs.length ec (evsv s.evs), ThsR bs s.ths] h

theorem SdR.open {sb : Nat} {bs : List Nat} {s : Sd} (H : Own (SdR sb A bs s :: L) h) : ∃ mb ta tc ea ec, bs.length = s.ths.length ∧
    Own (pt sb (.cells (sdl s.c A mb ta s.ths.length tc ea s.evs.length ec).toArray 92 (0, 0)) :: MemR mb s.ws s.n :: SlR 97 1 ta s.ths.length tc (bs.map ptrV) :: SlR 75 10 ea s.evs.length ec (evsv s.evs) :: ThsR bs s.ths :: L) h := by
  obtain ⟨h1, h2, d, l, ⟨mb, ta, tc, ea, ec, hl, o1⟩, o2⟩ := H
  exact ⟨mb, ta, tc, ea, ec, hl, Own.join d l o1 o2⟩
theorem ThR.open {b : Nat} {t : Th} (H : Own (ThR b t :: L) h) : ∃ la lc nv, t.left.length ≤ lc ∧ Own (pt b (.cells (thl la t.left.length lc t.what nv).toArray 96 (0, 0)) :: LfR la (clsv t.left) :: NowR nv t.now :: L) h := by
  obtain ⟨h1, h2, d, l, ⟨la, lc, nv, hl, o1⟩, o2⟩ := H
  exact ⟨la, lc, nv, hl, Own.join d l o1 o2⟩

theorem ThsR.take : ∀ {bs : List Nat} {ths : List Th} {i : Nat} {t : Th} {L : List HProp} {h : Hp}, ths[i]? = some t → Own (ThsR bs ths :: L) h →
    ∃ b, bs[i]? = some b ∧ Own (ThR b t :: ThsR (bs.eraseIdx i) (ths.eraseIdx i) :: L) h
  | [], [], i, t, L, h, hi, H => by simp at hi
  | [], _ :: _, i, t, L, h, hi, H => by obtain ⟨_, _, _, _, o, _⟩ := H; exact o.elim
  | _ :: _, [], i, t, L, h, hi, H => by obtain ⟨_, _, _, _, o, _⟩ := H; exact o.elim
  | b :: bs, u :: ths, 0, t, L, h, hi, H => by
    simp only [List.getElem?_cons_zero, Option.some.injEq] at hi
    subst hi
    obtain ⟨h1, h2, d, l, o1, o2⟩ := H
    exact ⟨b, rfl, Own.join d l o1 o2⟩
  | b :: bs, u :: ths, i + 1, t, L, h, hi, H => by
    obtain ⟨h1, h2, d, l, o1, o2⟩ := H
    have H' : Own (ThR b u :: ThsR bs ths :: L) h := Own.join d l o1 o2
    obtain ⟨b', hb, H''⟩ := ThsR.take (L := ThR b u :: L) (i := i) (t := t) hi H'.swap
    refine ⟨b', hb, ?_⟩
    have H3 : Own (ThR b u :: ThsR (bs.eraseIdx i) (ths.eraseIdx i) :: ThR b' t :: L) h := H''.bring [2, 1]
    have H4 : Own ((fun h => Own [ThR b u, ThsR (bs.eraseIdx i) (ths.eraseIdx i)] h) :: ThR b' t :: L) h := Own.fold [0, 0] H3 fun _ o => o
    exact H4.swap
theorem ThsR.put : ∀ {bs : List Nat} {ths : List Th} {i b : Nat} {t : Th} {L : List HProp} {h : Hp}, bs.length = ths.length → bs[i]? = some b →
    Own (ThR b t :: ThsR (bs.eraseIdx i) (ths.eraseIdx i) :: L) h → Own (ThsR bs (ths.set i t) :: L) h
  | [], _, i, b, t, L, h, hl, hi, H => by simp at hi
  | _ :: _, [], i, b, t, L, h, hl, hi, H => by simp at hl
  | b' :: bs, u :: ths, 0, b, t, L, h, hl, hi, H => by
    simp only [List.getElem?_cons_zero, Option.some.injEq] at hi
    subst hi
    exact Own.fold (A := ThsR (b' :: bs) (t :: ths)) [0, 0] H fun _ o => o
  | b' :: bs, u :: ths, i + 1, b, t, L, h, hl, hi, H => by
    have H2 : Own ((fun h => Own [ThR b' u, ThsR (bs.eraseIdx i) (ths.eraseIdx i)] h) :: ThR b t :: L) h := H.swap
    have H3 : Own ([ThR b' u, ThsR (bs.eraseIdx i) (ths.eraseIdx i)] ++ (ThR b t :: L)) h := Own.ex0 H2
    have H4 : Own (ThR b t :: ThsR (bs.eraseIdx i) (ths.eraseIdx i) :: ThR b' u :: L) h := Own.bring (L := ThR b' u :: ThsR (bs.eraseIdx i) (ths.eraseIdx i) :: ThR b t :: L) [2, 1] H3
    have H5 := ThsR.put (L := ThR b' u :: L) (i := i) (by simpa using hl) hi H4
    exact Own.fold (A := ThsR (b' :: bs) (u :: ths.set i t)) [1, 0] H5 fun _ o => o
theorem set_get {α : Type} {xs : List α} {i : Nat} {x : α} (h : xs[i]? = some x) : xs.set i x = xs := by
  obtain ⟨hi, rfl⟩ := List.getElem?_eq_some_iff.1 h
  exact List.set_getElem_self hi
theorem evsv_snoc (l : List Ev) (e : Ev) : evsv (l ++ [e]) = evsv l ++ evv e := by simp [evsv]
/-- A slice's array, laid open where it has an element. -/
theorem SlR.openAt {e n c : Nat} {a : Option Addr} {cs : List Value} {i : Nat} {v : Value} (hv : cs[i]? = some v) (H : Own (SlR e 1 a n c cs :: L) h) :
    ∃ b off pre rest, a = some ⟨b, off, none⟩ ∧ i < n ∧ (pre ++ (cs ++ rest))[off + i]? = some v ∧ Own (pt b (.cells (pre ++ (cs ++ rest)).toArray e (0, 0)) :: L) h ∧
      ∀ {L' : List HProp} {h' : Hp}, Own (pt b (.cells (pre ++ (cs ++ rest)).toArray e (0, 0)) :: L') h' → Own (SlR e 1 (some ⟨b, off, none⟩) n c cs :: L') h' := by
  obtain ⟨q1, q2, ⟨rfl, rfl, rfl, _⟩ | ⟨b, off, pre, rest, rfl, x, y, o⟩⟩ := H.openSl
  · have : cs = [] := by apply List.length_eq_zero_iff.1; simpa using q1
    subst this; simp at hv
  · have hi := (List.getElem?_eq_some_iff.1 hv).1
    refine ⟨b, off, pre, rest, rfl, by omega, ?_, o, fun {L' h'} o' => Own.shutSl q1 q2 x y o'⟩
    rw [List.getElem?_append_right (by omega), show off + i - pre.length = i by omega, List.getElem?_append_left hi]
    exact hv
/-- The scheduler with its thread i laid open, and shut again. -/
theorem SdR.openT {sb i : Nat} {bs : List Nat} {s : Sd} {t : Th} (ht : s.ths[i]? = some t) (H : Own (SdR sb A bs s :: L) h) : ∃ (mb tc : Nat) (ea : Option Addr) (ec : Nat) (tb ab aoff : Nat) (pre rest : List Value) (la : Option Addr) (lc : Nat) (nv : Value),
    bs.length = s.ths.length ∧ bs[i]? = some tb ∧ t.left.length ≤ lc ∧ (pre ++ (bs.map ptrV ++ rest))[aoff + i]? = some (ptrV tb) ∧
    Own (pt tb (.cells (thl la t.left.length lc t.what nv).toArray 96 (0, 0)) :: LfR la (clsv t.left) :: NowR nv t.now :: ThsR (bs.eraseIdx i) (s.ths.eraseIdx i) ::
      pt sb (.cells (sdl s.c A mb (some ⟨ab, aoff, none⟩) s.ths.length tc ea s.evs.length ec).toArray 92 (0, 0)) :: MemR mb s.ws s.n :: pt ab (.cells (pre ++ (bs.map ptrV ++ rest)).toArray 97 (0, 0)) :: SlR 75 10 ea s.evs.length ec (evsv s.evs) :: L) h ∧
    ∀ {L' : List HProp} {h' : Hp}, Own (pt ab (.cells (pre ++ (bs.map ptrV ++ rest)).toArray 97 (0, 0)) :: L') h' → Own (SlR 97 1 (some ⟨ab, aoff, none⟩) s.ths.length tc (bs.map ptrV) :: L') h' := by
  obtain ⟨mb, ta, tc, ea, ec, hbl, H⟩ := SdR.open H
  have hi := (List.getElem?_eq_some_iff.1 ht).1
  obtain ⟨tb, htb, H⟩ := ThsR.take (L := pt sb (.cells (sdl s.c A mb ta s.ths.length tc ea s.evs.length ec).toArray 92 (0, 0)) :: MemR mb s.ws s.n :: SlR 97 1 ta s.ths.length tc (bs.map ptrV) :: SlR 75 10 ea s.evs.length ec (evsv s.evs) :: L) ht (H.bring [4])
  have hpv : (bs.map ptrV)[i]? = some (ptrV tb) := by simp [htb]
  obtain ⟨ab, aoff, pre, rest, rfl, hin, hav, H, hsh⟩ := SlR.openAt hpv (H.bring [4])
  obtain ⟨la, lc, nv, hl, H⟩ := ThR.open (H.bring [1])
  exact ⟨mb, tc, ea, ec, tb, ab, aoff, pre, rest, la, lc, nv, hbl, htb, hl, hav, H.bring [0, 0, 0, 1, 1, 1], hsh⟩
theorem SdR.close {sb mb i tb tc ec lc : Nat} {ta ea la : Option Addr} {bs : List Nat} {nv : Value} {s : Sd} {t : Th} (hbl : bs.length = s.ths.length) (htb : bs[i]? = some tb) (hl : t.left.length ≤ lc)
    (H : Own (SlR 97 1 ta s.ths.length tc (bs.map ptrV) :: pt tb (.cells (thl la t.left.length lc t.what nv).toArray 96 (0, 0)) :: LfR la (clsv t.left) :: NowR nv t.now :: ThsR (bs.eraseIdx i) (s.ths.eraseIdx i) ::
      pt sb (.cells (sdl s.c A mb ta s.ths.length tc ea s.evs.length ec).toArray 92 (0, 0)) :: MemR mb s.ws s.n :: SlR 75 10 ea s.evs.length ec (evsv s.evs) :: L) h) : Own (SdR sb A bs { s with ths := s.ths.set i t } :: L) h := by
  have H := Own.fold (A := ThR tb t) [1, 1, 1] H fun h H => ⟨la, lc, nv, hl, H⟩
  have H := ThsR.put hbl htb (H.bring [0, 1])
  exact Own.fold (A := SdR sb A bs { s with ths := s.ths.set i t }) [2, 2, 1, 1, 0] H fun h H => ⟨mb, ta, tc, ea, ec, by simpa using hbl, by simpa using H⟩
theorem LfR.open1 {la : Option Addr} {x : Cl} {xs : List Cl} (H : Own (LfR la (clsv (x :: xs)) :: L) h) : ∃ b off pre rest, la = some ⟨b, off, none⟩ ∧ pre.length = off ∧ Own (pt b (.cells (pre ++ (clsv (x :: xs) ++ rest)).toArray 70 (0, 0)) :: L) h := by
  obtain ⟨h1, h2, d, l, o1, o2⟩ := H
  rcases o1 with ⟨_, q⟩ | ⟨b, off, pre, rest, q1, q2, q3⟩
  · simp [clsv] at q
  · exact ⟨b, off, pre, rest, q1, q2, h1, h2, d, l, q3, o2⟩
theorem LfR.shut {b off' : Nat} {pre rest cs cs' pre' rest' : List Value} (e : pre ++ (cs ++ rest) = pre' ++ (cs' ++ rest')) (q : pre'.length = off') (H : Own (pt b (.cells (pre ++ (cs ++ rest)).toArray 70 (0, 0)) :: L) h) : Own (LfR (some ⟨b, off', none⟩) cs' :: L) h := by
  obtain ⟨h1, h2, d, l, o1, o2⟩ := H
  refine ⟨h1, h2, d, l, .inr ⟨b, off', pre', rest', rfl, q, ?_⟩, o2⟩
  rw [← e]; exact o1
theorem get3 {pre rest : List Value} {x : Cl} {xs : List Cl} {off : Nat} (q : pre.length = off) : GetL (pre ++ (clsv (x :: xs) ++ rest)) off 3 (clv x) := ⟨by
  subst q
  refine ⟨by simp [clsv], ?_⟩
  rw [List.drop_left]
  simp [clsv]⟩
theorem McR.mono {m : Mc} {b : Nat} {h h' : Hp} (l : Hp.le h h') (H : McR b m h) : McR b m h' := by
  cases m with
  | sh s => obtain ⟨sb, o⟩ := H; exact ⟨sb, o.mono l⟩
  | pk s => obtain ⟨bb, xb, o⟩ := H; exact ⟨bb, xb, o.mono l⟩
  | _ => exact H.elim
end Go.Proofs
