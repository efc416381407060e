/- How many steps a machine still makes: each step is one less; a write that another one waits for costs it at most seven. -/
import Derived.Test.YtnfcoikbkmhggaaGreatLay
set_option linter.all false
set_option linter.unusedVariables false
set_option linter.unusedSimpArgs false
namespace Go.BL
/-- A word at which somebody may try again: a limit, what is available, a lease, a stripe. -/
def Cf.Con (c : Cf) (a : Nat) : Prop := ∃ v r, v < c.N ∧ r < c.E ∧ (r < 2 + c.S ∨ 6 + c.S ≤ r) ∧ a = c.pl v r
/-- What a step does to the words that count, and to the number of writes that are left. -/
def Cf.Wr (c : Cf) (ws ws' : List Int) (n n' : Nat) : Prop := ((∀ a, c.Con a → rd ws' a = rd ws a) ∧ n' ≤ n) ∨ n' + 1 ≤ n
theorem Cf.Wr.same {c : Cf} {ws : List Int} {n n' : Nat} (h : n' ≤ n) : c.Wr ws ws n n' := .inl ⟨fun _ _ => rfl, h⟩
theorem Cf.Con.ne {c : Cf} {a v r : Nat} (h : c.Con a) (hr : r < c.E) (h1 : 2 + c.S ≤ r) (h2 : r < 6 + c.S) : c.pl v r ≠ a := by
  obtain ⟨u, q, _, hq, hc, rfl⟩ := h
  exact c.pl_ne hr hq (by omega)

/-! ### A shift -/
def Sh.rem (s : Sh) : Nat := match s.k with | .refund => 1 - s.pos | _ => 3 - s.pos
def Sh.stale (s : Sh) (ws : List Int) : Bool :=
  match s.k, s.pos with
  | .raise, 1 => decide (rd ws s.limit ≠ s.saw)
  | .lower, 1 => decide (rd ws s.avail ≠ s.saw)
  | _, _ => false
def Sh.mu (s : Sh) (ws : List Int) : Nat := s.rem + if s.stale ws then 7 else 0
def Sh.wl (s : Sh) : Nat := match s.k with | .refund => 1 - s.pos | _ => min 2 (3 - s.pos)
theorem Sh.mu_step {c : Cf} {s : Sh} {ws : List Int} (hd : s.done = false) : (s.stepX ws).1.mu (s.stepX ws).2 + 1 ≤ s.mu ws ∧ c.Wr ws (s.stepX ws).2 s.wl (s.stepX ws).1.wl := by
  obtain ⟨k, lim, av, node, n, saw, pos, ans⟩ := s
  unfold Sh.stepX
  rw [hd]
  simp only [Bool.false_eq_true, if_false]
  have hd : ¬ k.len ≤ pos := by simpa [Sh.done] using hd
  cases k <;> simp only [ShK.len] at hd
  · have : pos = 0 := by omega
    subst this
    exact ⟨by simp [Sh.go, Sh.mu, Sh.rem, Sh.stale], .inr (by simp [Sh.go, Sh.wl])⟩
  · have : pos = 0 ∨ pos = 1 ∨ pos = 2 := by omega
    rcases this with rfl | rfl | rfl
    · refine ⟨?_, .same ?_⟩ <;> simp only [Sh.go, Sh.mu, Sh.rem, Sh.stale, Sh.wl] <;> split <;> simp
    · by_cases e : rd ws lim = saw
      · refine ⟨?_, .inr ?_⟩ <;> simp [Sh.go, Sh.mu, Sh.rem, Sh.stale, Sh.wl, e]
      · refine ⟨?_, .inl ⟨fun a _ => ?_, ?_⟩⟩ <;> simp [Sh.go, Sh.mu, Sh.rem, Sh.stale, Sh.wl, casW, e]
    · exact ⟨by simp [Sh.go, Sh.mu, Sh.rem, Sh.stale], .inr (by simp [Sh.go, Sh.wl])⟩
  · have : pos = 0 ∨ pos = 1 ∨ pos = 2 := by omega
    rcases this with rfl | rfl | rfl
    · refine ⟨?_, .same ?_⟩ <;> simp only [Sh.go, Sh.mu, Sh.rem, Sh.stale, Sh.wl] <;> split <;> simp
    · by_cases e : rd ws av = saw
      · refine ⟨?_, .inr ?_⟩ <;> simp [Sh.go, Sh.mu, Sh.rem, Sh.stale, Sh.wl, e]
      · refine ⟨?_, .inl ⟨fun a _ => ?_, ?_⟩⟩ <;> simp [Sh.go, Sh.mu, Sh.rem, Sh.stale, Sh.wl, casW, e]
    · exact ⟨by simp [Sh.go, Sh.mu, Sh.rem, Sh.stale], .inr (by simp [Sh.go, Sh.wl])⟩

/-! ### A number is added -/
def AdK.rem : AdK → Nat
  | .begin => 6 | .look => 5 | .keep => 1 | .opn => 4 | .empty => 3 | .flush => 2 | .close => 1 | .undo => 8 | .grow => 7 | .fin => 0
def AdK.pend : AdK → Bool
  | .keep | .opn | .empty => true
  | _ => false
def AdK.wl : AdK → Nat
  | .flush | .close | .fin => 0
  | _ => 1
def Ad.stale (s : Ad) (ws : List Int) : Bool := s.st.pend && decide (rd ws s.stripe ≠ s.w)
def Ad.mu (s : Ad) (ws : List Int) : Nat := s.st.rem + if s.stale ws then 7 else 0
def Ad.wl (s : Ad) : Nat := s.st.wl
theorem Ad.miss_mu (s : Ad) (ws : List Int) : s.miss.mu ws ≤ 7 ∧ s.miss.wl = 1 := by
  unfold Ad.miss Ad.again
  split <;> simp [Ad.mu, Ad.stale, Ad.wl, AdK.rem, AdK.pend, AdK.wl]
theorem Ad.again_mu (s : Ad) (ws : List Int) : s.again.mu ws = 6 ∧ s.again.wl = 1 := by
  simp [Ad.again, Ad.mu, Ad.stale, Ad.wl, AdK.rem, AdK.pend, AdK.wl]
theorem Ad.mu_step {c : Cf} {s : Ad} {ws : List Int} (o : c.Ok) (W : s.Wf c) (hd : s.done = false) : (s.stepX ws).1.mu (s.stepX ws).2 + 1 ≤ s.mu ws ∧ c.Wr ws (s.stepX ws).2 s.wl (s.stepX ws).1.wl := by
  obtain ⟨v, hv, hb⟩ := W.base
  have hE := o.E.2
  have hS := o.S.2
  have hne : ∀ j, j < 4 → ∀ a, c.Con a → s.base + j ≠ a := fun j hj a ha => by
    have e : c.pl v (2 + c.S) + j = c.pl v (2 + c.S + j) := by unfold Cf.pl; omega
    rw [hb, e]; exact ha.ne (v := v) (r := 2 + c.S + j) (by omega) (by omega) (by omega)
  have hW := W.at_
  obtain ⟨base, stripes, gate, d, x, lives, stripe, w, val, st⟩ := s
  unfold Ad.stepX
  cases st <;> simp only [Ad.done, decide_eq_false_iff_not, reduceCtorEq, not_false_eq_true, not_true_eq_false] at hd
  all_goals simp only [ne_eq, reduceCtorEq, not_false_eq_true, true_implies, not_true_eq_false, false_implies] at hW
  · exact ⟨by simp [Ad.go, Ad.mu, Ad.stale, AdK.rem, AdK.pend], .same (by simp [Ad.go, Ad.wl, AdK.wl])⟩
  · refine ⟨?_, .same ?_⟩
    · simp only [Ad.go, Ad.mu, Ad.stale]; split <;> simp [AdK.rem, AdK.pend]
    · simp only [Ad.go, Ad.wl]; split <;> simp [AdK.wl]
  · by_cases e : rd ws stripe = w
    · exact ⟨by simp [Ad.go, Ad.mu, Ad.stale, e, AdK.rem, AdK.pend], .inr (by simp [Ad.go, Ad.wl, e, AdK.wl])⟩
    · have := Ad.miss_mu ⟨base, stripes, gate, d, x, lives, stripe, w, val, .keep⟩ ws
      refine ⟨?_, ?_⟩
      · simp only [Ad.go, e, if_false, casW]
        have h2 : Ad.mu ⟨base, stripes, gate, d, x, lives, stripe, w, val, .keep⟩ ws = 8 := by simp [Ad.mu, Ad.stale, AdK.pend, e, AdK.rem]
        omega
      · simp only [Ad.go, e, if_false, casW]; exact .same (by rw [this.2]; simp [Ad.wl, AdK.wl])
  · obtain ⟨hl, i, hi, hs⟩ := hW
    have : rd (addW ws (base + 1) 1) stripe = rd ws stripe := rd_addW_ne (by omega)
    refine ⟨by simp [Ad.go, Ad.mu, Ad.stale, AdK.rem, AdK.pend, this]; split <;> omega, .inl ⟨fun a ha => rd_addW_ne (hne 1 (by omega) a ha), by simp [Ad.go, Ad.wl, AdK.wl]⟩⟩
  · by_cases e : rd ws stripe = w
    · exact ⟨by simp [Ad.go, Ad.mu, Ad.stale, e, AdK.rem, AdK.pend], .inr (by simp [Ad.go, Ad.wl, e, AdK.wl])⟩
    · exact ⟨by simp [Ad.go, Ad.mu, Ad.stale, e, AdK.rem, AdK.pend], by simp only [Ad.go, e, if_false, casW]; exact .same (by simp [Ad.wl, AdK.wl])⟩
  · exact ⟨by simp [Ad.go, Ad.mu, Ad.stale, AdK.rem, AdK.pend], .inl ⟨fun a ha => rd_addW_ne (hne 0 (by omega) a ha), by simp [Ad.go, Ad.wl, AdK.wl]⟩⟩
  · exact ⟨by simp [Ad.go, Ad.mu, Ad.stale, AdK.rem, AdK.pend], .inl ⟨fun a ha => rd_addW_ne (hne 2 (by omega) a ha), by simp [Ad.go, Ad.wl, AdK.wl]⟩⟩
  · have := Ad.miss_mu ⟨base, stripes, gate, d, x, lives, stripe, w, val, .undo⟩ (addW ws (base + 2) 1)
    refine ⟨?_, .inl ⟨fun a ha => rd_addW_ne (hne 2 (by omega) a ha), ?_⟩⟩
    · simp only [Ad.go]
      have h2 : Ad.mu ⟨base, stripes, gate, d, x, lives, stripe, w, val, .undo⟩ ws = 8 := by simp [Ad.mu, Ad.stale, AdK.pend, AdK.rem]
      omega
    · simp only [Ad.go]; rw [this.2]; simp [Ad.wl, AdK.wl]
  · have := Ad.again_mu ⟨base, stripes, gate, d, x, lives, stripe, w, val, .grow⟩ (casW ws (base + 3) lives (w64 (2 * lives)))
    refine ⟨?_, .inl ⟨fun a ha => rd_casW_ne (hne 3 (by omega) a ha), ?_⟩⟩
    · simp only [Ad.go]; rw [this.1]; simp [Ad.mu, Ad.stale, AdK.pend, AdK.rem]
    · simp only [Ad.go]; rw [this.2]; simp [Ad.wl, AdK.wl]

/-! ### Tokens of a node -/
def PoK.rem : PoK → Nat
  | .look => 5 | .spend => 1 | .price => 4 | .buy => 3 | .room => 2 | .keep => 1 | .back => 1 | .over => 0
def PoK.wl : PoK → Nat
  | .look | .spend | .price | .buy => 2
  | .room | .keep | .back => 1
  | .over => 0
def Po.stale (s : Po) (ws : List Int) : Bool :=
  match s.st with
  | .spend | .keep => decide (rd ws s.lease ≠ s.had)
  | .buy => decide (rd ws s.avail ≠ s.saw)
  | _ => false
def Po.mu (s : Po) (ws : List Int) : Nat := s.st.rem + if s.stale ws then 7 else 0
def Po.wl (s : Po) : Nat := s.st.wl
theorem Po.mu_step {c : Cf} {s : Po} {ws : List Int} (hd : s.done = false) : (s.stepX ws).1.mu (s.stepX ws).2 + 1 ≤ s.mu ws ∧ c.Wr ws (s.stepX ws).2 s.wl (s.stepX ws).1.wl := by
  obtain ⟨avail, lease, node, n, limit, st, had, saw, extra, ans⟩ := s
  unfold Po.stepX
  cases st <;> simp only [Po.done, decide_eq_false_iff_not, reduceCtorEq, not_false_eq_true, not_true_eq_false] at hd
  · refine ⟨?_, .same ?_⟩ <;> simp only [Po.go] <;> split <;> simp [Po.mu, Po.stale, Po.wl, PoK.rem, PoK.wl]
  · by_cases e : rd ws lease = had
    · exact ⟨by simp [Po.go, Po.mu, Po.stale, e, PoK.rem], .inr (by simp [Po.go, Po.wl, e, PoK.wl])⟩
    · exact ⟨by simp [Po.go, Po.mu, Po.stale, e, PoK.rem], by simp only [Po.go, e, if_false, casW]; exact .same (by simp [Po.wl, PoK.wl])⟩
  · refine ⟨?_, .same ?_⟩ <;> simp only [Po.go, Po.priced] <;> split <;> simp [Po.mu, Po.stale, Po.wl, PoK.rem, PoK.wl]
  · by_cases e : rd ws avail = saw
    · by_cases e2 : extra = 0
      · exact ⟨by simp [Po.go, Po.mu, Po.stale, e, e2, PoK.rem], .inr (by simp [Po.go, Po.wl, e, e2, PoK.wl])⟩
      · exact ⟨by simp [Po.go, Po.mu, Po.stale, e, e2, PoK.rem], .inr (by simp [Po.go, Po.wl, e, e2, PoK.wl])⟩
    · exact ⟨by simp [Po.go, Po.mu, Po.stale, e, PoK.rem], by simp only [Po.go, e, if_false, casW]; exact .same (by simp [Po.wl, PoK.wl])⟩
  · refine ⟨?_, .same ?_⟩ <;> simp only [Po.go] <;> split <;> simp [Po.mu, Po.stale, Po.wl, PoK.rem, PoK.wl]
  · by_cases e : rd ws lease = had
    · exact ⟨by simp [Po.go, Po.mu, Po.stale, e, PoK.rem], .inr (by simp [Po.go, Po.wl, e, PoK.wl])⟩
    · exact ⟨by simp [Po.go, Po.mu, Po.stale, e, PoK.rem], by simp only [Po.go, e, if_false, casW]; exact .same (by simp [Po.wl, PoK.wl])⟩
  · exact ⟨by simp [Po.go, Po.mu, Po.stale, PoK.rem], .inr (by simp [Po.go, Po.wl, PoK.wl])⟩

/-! ### A claim, a count -/
def Cm.mu (s : Cm) : Nat := if s.fin then 0 else if s.seen then 2 * s.left.length - 1 else 2 * s.left.length
theorem Cm.next_mu (s : Cm) (h : s.left ≠ []) : s.next.mu ≤ 2 * (s.left.length - 1) := by
  unfold Cm.next
  split
  · simp [Cm.mu]
  · by_cases f : s.fin <;> simp [Cm.mu, f]
theorem Cm.mu_step {c : Cf} {s : Cm} {ws : List Int} (o : c.Ok) (W : s.Wf c) (hd : s.fin = false) : (s.stepX ws).1.mu + 1 ≤ s.mu ∧ ∀ a, c.Con a → rd (s.stepX ws).2 a = rd ws a := by
  have hl := W.some_ hd
  have hn : 1 ≤ s.left.length := by cases e : s.left with | nil => exact absurd e hl | cons => simp
  have hat : ∀ a, c.Con a → s.at_ ≠ a := by
    intro a ⟨v, r, hv, hr, _, e⟩
    obtain ⟨k, hk, hk0, hk1⟩ : ∃ k : Nat, s.left.headD 0 = k ∧ 0 ≤ (k : Int) ∧ (k : Int) < c.tickets := by
      have hm : s.left.headD 0 ∈ s.left := by cases e : s.left with | nil => exact absurd e hl | cons x l => simp
      have := W.left _ hm
      obtain ⟨k, e⟩ := Int.eq_ofNat_of_zero_le this.1
      exact ⟨k, e, by omega, by omega⟩
    unfold Cm.at_
    rw [hk, W.cf, o.tkN, e]
    exact (c.pl_neT hv hr).symm
  unfold Cm.stepX
  rw [hd]
  simp only [Bool.false_eq_true, if_false]
  unfold Cm.go
  by_cases hs : s.seen = true
  · rw [if_pos hs]
    refine ⟨?_, fun a ha => rd_casW_ne (hat a ha)⟩
    have h1 : s.mu = 2 * s.left.length - 1 := by simp [Cm.mu, hd, hs]
    rw [h1]
    by_cases e : rd ws s.at_ = s.saw
    · simp only [e, if_true]; simp [Cm.mu]; omega
    · simp only [e, if_false]; have := s.next_mu hl; omega
  · rw [if_neg hs]
    refine ⟨?_, fun a ha => rfl⟩
    have h1 : s.mu = 2 * s.left.length := by simp [Cm.mu, hd, hs]
    rw [h1]
    by_cases e : slState (rd ws s.at_) ≠ 0
    · simp only [e, ne_eq, not_false_eq_true, if_true]
      have := Cm.next_mu { s with saw := rd ws s.at_, seen := true } hl
      simp only at this; omega
    · simp only [e, if_false]; simp [Cm.mu, hd]; omega
end Go.BL
