/- Where the words lie; what a machine's places are; that a step keeps all that, and asks only for words that there are. -/
import Derived.Test.YtnfcoikbkmhggaaGreatPureM
set_option linter.all false
set_option linter.unusedVariables false
set_option linter.unusedSimpArgs false
namespace Go.BL
def Cf.S (c : Cf) : Nat := c.stripes.toNat
def Cf.E (c : Cf) : Nat := 6 + 2 * c.S
def Cf.N (c : Cf) : Nat := c.parents.length
def Cf.K (c : Cf) : Nat := c.tickets.toNat
/-- Word r of node v; of the tickets, if v is N. -/
def Cf.pl (c : Cf) (v r : Nat) : Nat := v * c.E + r
theorem lay_inj {E u v r q : Nat} (hr : r < E) (hq : q < E) (h : u * E + r = v * E + q) : u = v ∧ r = q := by
  rcases Nat.lt_trichotomy u v with x | x | x
  · have := Nat.mul_le_mul_right E (show u + 1 ≤ v from x)
    rw [Nat.add_mul] at this
    omega
  · subst x; exact ⟨rfl, by omega⟩
  · have := Nat.mul_le_mul_right E (show v + 1 ≤ u from x)
    rw [Nat.add_mul] at this
    omega
theorem Cf.Ok.S {c : Cf} (o : c.Ok) : (c.S : Int) = c.stripes ∧ (c.S = 1 ∨ c.S = 2 ∨ c.S = 4 ∨ c.S = 8) := by
  unfold Cf.S
  rcases o.stripes with h | h | h | h <;> rw [h] <;> exact ⟨rfl, by decide⟩
theorem Cf.Ok.K {c : Cf} (o : c.Ok) : (c.K : Int) = c.tickets ∧ 1 ≤ c.K ∧ c.K ≤ 16 := by
  have := o.tickets
  unfold Cf.K
  omega
theorem Cf.Ok.E {c : Cf} (o : c.Ok) : (c.E : Int) = c.each ∧ c.E = 6 + 2 * c.S := by
  have := o.S.1
  unfold Cf.E Cf.each
  constructor <;> omega
theorem Cf.Ok.lim {c : Cf} (o : c.Ok) (v : Nat) : c.limitAt v = (c.pl v 0 : Nat) := by
  unfold Cf.limitAt Cf.pl
  rw [← o.E.1]
  simp
theorem Cf.Ok.pl {c : Cf} (o : c.Ok) (v r : Nat) : (c.pl v r : Int) = c.limitAt v + r := by
  rw [o.lim]; unfold Cf.pl; omega
theorem Cf.Ok.limN {c : Cf} (o : c.Ok) (v : Nat) : (c.limitAt v).toNat = c.pl v 0 := by rw [o.lim]; rfl
theorem Cf.Ok.avN {c : Cf} (o : c.Ok) (v : Nat) : (c.availAt v).toNat = c.pl v 1 := by unfold Cf.availAt; have := o.pl v 1; omega
theorem Cf.Ok.leN {c : Cf} (o : c.Ok) (v s : Nat) : (c.leaseAt v s).toNat = c.pl v (2 + s) := by unfold Cf.leaseAt; have := o.pl v (2 + s); omega
theorem Cf.Ok.ctN {c : Cf} (o : c.Ok) (v : Nat) : (c.counterAt v).toNat = c.pl v (2 + c.S) := by unfold Cf.counterAt Cf.leaseAt; have := o.pl v (2 + c.S); have := o.S.1; omega
theorem Cf.Ok.tkN {c : Cf} (o : c.Ok) (k : Nat) : (c.ticketAt k).toNat = c.pl c.N (2 * k) := by unfold Cf.ticketAt; have := o.pl c.N (2 * k); unfold Cf.N at *; omega
theorem Cf.Ok.tk1N {c : Cf} (o : c.Ok) (k : Nat) : (c.ticketAt k + 1).toNat = c.pl c.N (2 * k + 1) := by unfold Cf.ticketAt; have := o.pl c.N (2 * k + 1); unfold Cf.N at *; omega
theorem Cf.Ok.szN {c : Cf} (o : c.Ok) : c.size.toNat = c.pl c.N (2 * c.K) := by unfold Cf.size Cf.ticketAt; have := o.pl c.N (2 * c.K); have := o.K.1; unfold Cf.N at *; omega
theorem Cf.pl_lt {c : Cf} {v r : Nat} (hv : v < c.N) (hr : r < c.E) (q : Nat) : c.pl v r < c.pl c.N q := by
  unfold Cf.pl
  have := Nat.mul_le_mul_right c.E (show v + 1 ≤ c.N from hv)
  rw [Nat.add_mul] at this
  omega
theorem Cf.pl_inj {c : Cf} {u v r q : Nat} (hr : r < c.E) (hq : q < c.E) (h : c.pl u r = c.pl v q) : u = v ∧ r = q := lay_inj hr hq h
theorem Cf.pl_ne {c : Cf} {u v r q : Nat} (hr : r < c.E) (hq : q < c.E) (h : r ≠ q) : c.pl u r ≠ c.pl v q := fun e => h (c.pl_inj hr hq e).2
theorem Cf.pl_ne' {c : Cf} {u v r q : Nat} (hr : r < c.E) (hq : q < c.E) (h : u ≠ v) : c.pl u r ≠ c.pl v q := fun e => h (c.pl_inj hr hq e).1
theorem Cf.pl_neT {c : Cf} {v r q : Nat} (hv : v < c.N) (hr : r < c.E) : c.pl v r ≠ c.pl c.N q := Nat.ne_of_lt (c.pl_lt hv hr q)

theorem rd_set (ws : List Int) (a b : Nat) (x : Int) (ha : a < ws.length) : rd (ws.set a x) b = if a = b then x else rd ws b := by
  unfold rd
  simp only [List.getD_eq_getElem?_getD, List.getElem?_set]
  by_cases e : a = b
  · subst e; simp [ha]
  · simp [e]
theorem rd_set_ne {ws : List Int} {a b : Nat} {x : Int} (h : a ≠ b) : rd (ws.set a x) b = rd ws b := by
  unfold rd
  simp [List.getD_eq_getElem?_getD, List.getElem?_set, h]
theorem rd_addW_ne {ws : List Int} {a b : Nat} {x : Int} (h : a ≠ b) : rd (addW ws a x) b = rd ws b := rd_set_ne h
theorem rd_casW_ne {ws : List Int} {a b : Nat} {u x : Int} (h : a ≠ b) : rd (casW ws a u x) b = rd ws b := by
  unfold casW; split
  · exact rd_set_ne h
  · rfl
theorem rd_addW {ws : List Int} {a : Nat} {x : Int} (h : a < ws.length) : rd (addW ws a x) a = w64 (rd ws a + x) := by unfold addW; rw [rd_set _ _ _ _ h, if_pos rfl]
theorem rd_casW {ws : List Int} {a : Nat} {u x : Int} (h : a < ws.length) : rd (casW ws a u x) a = if rd ws a = u then x else rd ws a := by
  unfold casW; split
  · rw [rd_set _ _ _ _ h, if_pos rfl]
  · rfl

/-- How many stripes live may be. -/
def Cf.Lv (c : Cf) (l : Int) : Prop := (l = 1 ∨ l = 2 ∨ l = 4 ∨ l = 8) ∧ l ≤ c.stripes
structure WsOk (c : Cf) (ws : List Int) : Prop where
  len : ws.length = c.size.toNat
  live : ∀ v, v < c.N → c.Lv (rd ws (c.pl v (5 + c.S)))
theorem WsOk.lt {c : Cf} {ws : List Int} (H : WsOk c ws) (o : c.Ok) {v r : Nat} (hv : v < c.N) (hr : r < c.E) : c.pl v r < ws.length := by
  rw [H.len, o.szN]; exact c.pl_lt hv hr _
theorem WsOk.ltT {c : Cf} {ws : List Int} (H : WsOk c ws) (o : c.Ok) {r : Nat} (hr : r < 2 * c.K) : c.pl c.N r < ws.length := by
  rw [H.len, o.szN]; unfold Cf.pl; omega
/-- A write that is not at a word of live ones. -/
theorem WsOk.set {c : Cf} {ws : List Int} (H : WsOk c ws) {a : Nat} {x : Int} (ha : ∀ v, v < c.N → a ≠ c.pl v (5 + c.S)) : WsOk c (ws.set a x) :=
  ⟨by simpa using H.len, fun v hv => by rw [rd_set_ne (ha v hv)]; exact H.live v hv⟩
theorem WsOk.add {c : Cf} {ws : List Int} (H : WsOk c ws) {a : Nat} {x : Int} (ha : ∀ v, v < c.N → a ≠ c.pl v (5 + c.S)) : WsOk c (addW ws a x) := H.set ha
theorem WsOk.cas {c : Cf} {ws : List Int} (H : WsOk c ws) {a : Nat} {u x : Int} (ha : ∀ v, v < c.N → a ≠ c.pl v (5 + c.S)) : WsOk c (casW ws a u x) := by
  unfold casW; split
  · exact H.set ha
  · exact H

/-! ### The machines' places -/
def Sh.Wf (c : Cf) (s : Sh) : Prop := ∃ v, v < c.N ∧ s.limit = c.pl v 0 ∧ s.avail = c.pl v 1
def Pk.Wf (c : Cf) (s : Pk) : Prop := ∃ v, v < c.N ∧ s.base = c.pl v (2 + c.S)
structure Ad.Wf (c : Cf) (s : Ad) : Prop where
  base : ∃ v, v < c.N ∧ s.base = c.pl v (2 + c.S)
  str : s.stripes = c.stripes
  gate : s.gate = c.gate
  x : 0 ≤ s.x
  at_ : s.st ≠ .begin → c.Lv s.lives ∧ ∃ i, i < c.S ∧ s.stripe = s.base + 4 + i
  grow : s.st = .grow → s.lives < c.stripes
structure Po.Wf (c : Cf) (s : Po) : Prop where
  pl : ∃ v i, v < c.N ∧ i < c.S ∧ s.avail = c.pl v 1 ∧ s.lease = c.pl v (2 + i)
structure Cm.Wf (c : Cf) (s : Cm) : Prop where
  cf : s.c = c
  left : ∀ k ∈ s.left, 0 ≤ k ∧ k < c.tickets
  some_ : s.fin = false → s.left ≠ []
  ans : 0 ≤ s.ans.n ∧ s.ans.n < c.tickets
end Go.BL
namespace Go.BL
theorem Cf.Ok.notLive {c : Cf} (o : c.Ok) {u r : Nat} (hr : r < c.E) (hne : r ≠ 5 + c.S) : ∀ v, v < c.N → c.pl u r ≠ c.pl v (5 + c.S) :=
  fun v _ => c.pl_ne hr (by have := o.E.2; omega) hne
theorem Cf.Ok.notLiveT {c : Cf} (o : c.Ok) {r : Nat} : ∀ v, v < c.N → c.pl c.N r ≠ c.pl v (5 + c.S) :=
  fun v hv => (c.pl_neT hv (by have := o.E.2; omega)).symm
/-! ### A step keeps a machine's places, and the words -/
theorem Sh.step_wf {c : Cf} {s : Sh} {ws : List Int} (o : c.Ok) (W : s.Wf c) (H : WsOk c ws) : (s.stepX ws).1.Wf c ∧ WsOk c (s.stepX ws).2 := by
  obtain ⟨v, hv, h1, h2⟩ := W
  have hE := o.E.2
  have n0 := o.notLive (u := v) (r := 0) (by omega) (by omega)
  have n1 := o.notLive (u := v) (r := 1) (by omega) (by omega)
  rw [← h1] at n0
  rw [← h2] at n1
  unfold Sh.stepX
  split
  · exact ⟨⟨v, hv, h1, h2⟩, H⟩
  · unfold Sh.go
    split <;> refine ⟨⟨v, hv, h1, h2⟩, ?_⟩ <;> first | exact H | exact H.add n0 | exact H.add n1 | exact H.cas n0 | exact H.cas n1
theorem Pk.step_wf {c : Cf} {s : Pk} {ws : List Int} (W : s.Wf c) (H : WsOk c ws) : (s.stepX ws).1.Wf c ∧ WsOk c (s.stepX ws).2 := by
  unfold Pk.stepX
  split
  · exact ⟨W, H⟩
  · exact ⟨W, H⟩
structure Ct.Wf (c : Cf) (s : Ct) : Prop where
  base : ∃ v, v < c.N ∧ s.base = c.pl v (2 + c.S)
  str : s.stripes = c.S
  got : s.fin = false → s.got.length < 4 + 2 * s.stripes
  left : s.fin = false → 1 ≤ s.left ∧ s.left ≤ c.retry
theorem Ct.step_wf {c : Cf} {s : Ct} {ws : List Int} (o : c.Ok) (W : s.Wf c) (H : WsOk c ws) : (s.stepX ws).1.Wf c ∧ WsOk c (s.stepX ws).2 := by
  unfold Ct.stepX
  by_cases hf : s.fin = true
  · rw [if_pos hf]; exact ⟨W, H⟩
  · rw [if_neg hf]
    have hf' : s.fin = false := by simpa using hf
    have hg := W.got hf'
    have hl := W.left hf'
    have hr := o.retry
    refine ⟨?_, H⟩
    dsimp only
    split
    · unfold Ct.closed
      dsimp only
      have e : w64 (s.left - 1) = s.left - 1 := wi (by omega)
      rw [e]
      split
      · exact ⟨W.base, W.str, by simp, by simp⟩
      · split
        · exact ⟨W.base, W.str, by simp, by simp⟩
        · refine ⟨W.base, W.str, fun _ => by simp; omega, fun _ => ?_⟩
          simp only
          omega
    · rename_i hne
      refine ⟨W.base, W.str, fun _ => ?_, fun _ => hl⟩
      simp only [List.length_append, List.length_cons, List.length_nil] at hne ⊢
      omega
end Go.BL
