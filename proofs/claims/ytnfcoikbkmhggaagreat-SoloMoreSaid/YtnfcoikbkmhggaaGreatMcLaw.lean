/- All machines alike: what is kept, how far it is to the end. -/
import Derived.Test.YtnfcoikbkmhggaaGreatMu
set_option linter.all false
set_option linter.unusedVariables false
set_option linter.unusedSimpArgs false
namespace Go.BL
def Ct.mu (s : Ct) : Nat := if s.fin then 0 else (s.left.toNat - 1) * (4 + 2 * s.stripes) + (4 + 2 * s.stripes - s.got.length)
theorem Ct.mu_step {c : Cf} {s : Ct} {ws : List Int} (o : c.Ok) (W : s.Wf c) (hd : s.fin = false) : (s.stepX ws).1.mu + 1 ≤ s.mu ∧ (s.stepX ws).2 = ws := by
  have hg := W.got hd
  have hl := W.left hd
  have hr := o.retry
  have h0 : s.mu = (s.left.toNat - 1) * (4 + 2 * s.stripes) + (4 + 2 * s.stripes - s.got.length) := by simp [Ct.mu, hd]
  unfold Ct.stepX
  rw [if_neg (by simp [hd])]
  refine ⟨?_, rfl⟩
  rw [h0]
  generalize hd0 : (s.left.toNat - 1) * (4 + 2 * s.stripes) = d at h0 ⊢
  dsimp only
  split
  · unfold Ct.closed
    dsimp only
    have e : w64 (s.left - 1) = s.left - 1 := wi (by omega)
    rw [e]
    split
    · simp [Ct.mu]; omega
    · split
      · simp [Ct.mu]; omega
      · rename_i h2
        simp only [Ct.mu, hd, Bool.false_eq_true, if_false, List.length_nil]
        obtain ⟨k, hk⟩ : ∃ k : Nat, s.left = k + 2 := ⟨(s.left - 2).toNat, by omega⟩
        have e1 : s.left.toNat - 1 = k + 1 := by omega
        have e2 : (s.left - 1).toNat - 1 = k := by omega
        rw [e2]
        rw [e1, Nat.add_mul] at hd0
        omega
  · simp only [Ct.mu, hd, Bool.false_eq_true, if_false, List.length_append, List.length_cons, List.length_nil, hd0]
    omega

def Mc.Wf (c : Cf) : Mc → Prop
  | .sh s => s.Wf c
  | .pk s => s.Wf c
  | .ct s => s.Wf c
  | .am _ => False
  | .rm _ => False
def Mc.mu (m : Mc) (ws : List Int) : Nat :=
  match m with
  | .sh s => s.mu ws
  | .pk s => if s.fin then 0 else 1
  | .ct s => s.mu
  | .am _ => 0
  | .rm _ => 0
def Mc.wl (m : Mc) : Nat :=
  match m with
  | .sh s => s.wl
  | _ => 0
theorem Mc.step_wf {c : Cf} {m : Mc} {ws : List Int} (o : c.Ok) (W : m.Wf c) (H : WsOk c ws) : (m.stepX ws).1.Wf c ∧ WsOk c (m.stepX ws).2 := by
  cases m with
  | sh s => exact Sh.step_wf o W H
  | pk s => exact Pk.step_wf W H
  | ct s => exact Ct.step_wf o W H
  | am s => exact W.elim
  | rm s => exact W.elim
theorem Mc.mu_step {c : Cf} {m : Mc} {ws : List Int} (o : c.Ok) (W : m.Wf c) (hd : m.done = false) : (m.stepX ws).1.mu (m.stepX ws).2 + 1 ≤ m.mu ws ∧ c.Wr ws (m.stepX ws).2 m.wl (m.stepX ws).1.wl := by
  cases m with
  | sh s => exact Sh.mu_step hd
  | pk s =>
    have hd : s.fin = false := hd
    exact ⟨by simp [Mc.stepX, Pk.stepX, Mc.mu, hd], .inl ⟨fun a _ => by simp [Mc.stepX, Pk.stepX, hd], Nat.le_refl _⟩⟩
  | ct s =>
    have h := Ct.mu_step (ws := ws) o W hd
    exact ⟨h.1, .inl ⟨fun a _ => by show rd (s.stepX ws).2 a = _; rw [h.2], Nat.le_refl _⟩⟩
  | am s => exact W.elim
  | rm s => exact W.elim
theorem Sh.mu_other {c : Cf} {s : Sh} {ws ws' : List Int} (o : c.Ok) (W : s.Wf c) : s.mu ws' ≤ s.mu ws + 7 ∧ ((∀ a, c.Con a → rd ws' a = rd ws a) → s.mu ws' = s.mu ws) := by
  have hE := o.E.2
  constructor
  · unfold Sh.mu; split <;> omega
  · intro h
    obtain ⟨v, hv, h1, h2⟩ := W
    have e1 := h s.limit (by rw [h1]; exact ⟨v, 0, hv, by omega, .inl (by omega), rfl⟩)
    have e2 := h s.avail (by rw [h2]; exact ⟨v, 1, hv, by omega, .inl (by omega), rfl⟩)
    have : s.stale ws' = s.stale ws := by unfold Sh.stale; split <;> simp [e1, e2]
    unfold Sh.mu; rw [this]
theorem Mc.mu_other {c : Cf} {m : Mc} {ws ws' : List Int} (o : c.Ok) (W : m.Wf c) : m.mu ws' ≤ m.mu ws + 7 ∧ ((∀ a, c.Con a → rd ws' a = rd ws a) → m.mu ws' = m.mu ws) := by
  cases m with
  | sh s => exact Sh.mu_other o W
  | pk s => exact ⟨by simp [Mc.mu], fun _ => rfl⟩
  | ct s => exact ⟨by simp [Mc.mu], fun _ => rfl⟩
  | am s => exact W.elim
  | rm s => exact W.elim
theorem Mc.mu_bound {c : Cf} {m : Mc} (o : c.Ok) (W : m.Wf c) (ws : List Int) : (m.mu ws : Int) ≤ c.bound ∧ (m.wl : Int) ≤ 3 * c.depth + 2 := by
  have hb := o.bound
  have hd := c.depth_le c.parents.length
  have hd0 : 0 ≤ c.depth := hd.1
  have hc := o.countB
  have ht := o.tickets
  have hB : c.bound = 2 * c.tickets + 24 * c.depth + 8 + c.retry * (4 + 2 * c.stripes) := rfl
  cases m with
  | sh s =>
    have : s.mu ws ≤ 10 := by
      unfold Sh.mu Sh.rem; split <;> split <;> omega
    have h2 : s.wl ≤ 2 := by unfold Sh.wl; split <;> omega
    refine ⟨?_, ?_⟩
    · show ((s.mu ws : Nat) : Int) ≤ _; omega
    · show ((s.wl : Nat) : Int) ≤ _; omega
  | pk s => refine ⟨?_, ?_⟩ <;> simp only [Mc.mu, Mc.wl] <;> (try split) <;> omega
  | ct s =>
    refine ⟨?_, by simp only [Mc.wl]; omega⟩
    show ((s.mu : Nat) : Int) ≤ _
    unfold Ct.mu
    by_cases hf : s.fin = true
    · rw [if_pos hf]; omega
    · rw [if_neg hf]
      have hf' : s.fin = false := by simpa using hf
      have hl := (W : s.Wf c).left hf'
      have hs := (W : s.Wf c).str
      have hS := o.S.1
      have h1 : (s.left.toNat - 1) * (4 + 2 * s.stripes) + (4 + 2 * s.stripes - s.got.length) ≤ s.left.toNat * (4 + 2 * s.stripes) := by
        obtain ⟨k, hk⟩ : ∃ k : Nat, s.left.toNat = k + 1 := ⟨s.left.toNat - 1, by omega⟩
        rw [hk, Nat.add_mul]; simp
      have h2 : s.left.toNat * (4 + 2 * s.stripes) ≤ c.retry.toNat * (4 + 2 * c.S) := by
        rw [hs]; exact Nat.mul_le_mul_right _ (by omega)
      have h3 : ((c.retry.toNat * (4 + 2 * c.S) : Nat) : Int) = c.retry * (4 + 2 * c.stripes) := by
        rw [Int.natCast_mul, ← hS]
        have := o.retry
        rw [Int.toNat_of_nonneg (by omega)]
        simp
      omega
  | am s => exact W.elim
  | rm s => exact W.elim
/-- The calls that are taken so far. -/
def Cl.kindOk (x : Cl) : Prop := x.kind = 3 ∨ x.kind = 4 ∨ x.kind = 6
theorem Cf.check_node {c : Cf} {x : Cl} (hk : x.kindOk) (h : c.check x = 0) : ∃ v : Nat, x.node = v ∧ v < c.N := by
  have key : c.ckNode x = 0 → ∃ v : Nat, x.node = v ∧ v < c.N := by
    intro q
    unfold Cf.ckNode at q
    split at q
    · omega
    · exact ⟨x.node.toNat, by omega, by unfold Cf.N; omega⟩
  have key2 : c.ckMoved x = 0 → ∃ v : Nat, x.node = v ∧ v < c.N := by
    intro q
    refine key ?_
    unfold Cf.ckMoved ckAmount at q
    split at q
    · omega
    · exact q
  unfold Cf.check at h
  rcases hk with e | e | e
  · exact key2 (by simpa [e] using h)
  · exact key2 (by simpa [e] using h)
  · exact key (by simpa [e] using h)
theorem Mc.new_wf {c : Cf} {x : Cl} {t : Int} (o : c.Ok) (hk : x.kindOk) (h : c.check x = 0) : (c.newMc t x).Wf c ∧ (c.newMc t x).done = false := by
  obtain ⟨v, e, hv⟩ := Cf.check_node hk h
  unfold Cl.kindOk at hk
  unfold Cf.newMc
  rcases hk with e2 | e2 | e2 <;> rw [e2] <;> simp only [Int.reduceEq, if_true, if_false]
  · exact ⟨⟨v, hv, by simp only [Sh.mk']; rw [e, o.limN], by simp only [Sh.mk']; rw [e, o.avN]⟩, by simp [Mc.done, Sh.done, Sh.mk', ShK.len]⟩
  · exact ⟨⟨v, hv, by simp only [Sh.mk']; rw [e, o.limN], by simp only [Sh.mk']; rw [e, o.avN]⟩, by simp [Mc.done, Sh.done, Sh.mk', ShK.len]⟩
  · exact ⟨⟨v, hv, by simp only; rw [e, o.ctN]⟩, rfl⟩
end Go.BL
