/- The scheduler: what all picks keep, and that a pick that tells true brings the end nearer. -/
import Derived.Test.YtnfcoikbkmhggaaGreatMcLaw
set_option linter.all false
set_option linter.unusedVariables false
set_option linter.unusedSimpArgs false
namespace Go.BL
/-- What a thread has ahead of it. -/
def Th.pot (L : Nat) (C0 : Nat) (ws : List Int) (t : Th) : Nat := (match t.now with | none => 0 | some m => m.mu ws + 7 * L * m.wl) + t.left.length * C0
def sumT (f : Th → Nat) (l : List Th) : Nat := (l.map f).sum
theorem sumT_at : ∀ {l : List Th} {i : Nat} {t : Th} (f : Th → Nat), l[i]? = some t → sumT f l = f t + sumT f (l.eraseIdx i)
  | [], i, t, f, h => by simp at h
  | u :: l, 0, t, f, h => by
    simp only [List.getElem?_cons_zero, Option.some.injEq] at h
    subst h; simp [sumT]
  | u :: l, i + 1, t, f, h => by
    have := sumT_at (l := l) f (by simpa using h)
    simp only [sumT, List.map_cons, List.sum_cons, List.eraseIdx_cons_succ] at this ⊢
    omega
theorem sumT_set {l : List Th} {i : Nat} {t u : Th} (f : Th → Nat) (h : l[i]? = some t) : sumT f (l.set i u) = f u + sumT f (l.eraseIdx i) := by
  have hi := (List.getElem?_eq_some_iff.1 h).1
  rw [sumT_at (i := i) (t := u) f (by simp [hi])]
  congr 2
  exact erase_set l i u
where
  erase_set : ∀ (l : List Th) (i : Nat) (u : Th), (l.set i u).eraseIdx i = l.eraseIdx i
    | [], _, _ => rfl
    | _ :: _, 0, _ => rfl
    | x :: l, i + 1, u => by simp only [List.set_cons_succ, List.eraseIdx_cons_succ, erase_set l i u]
theorem sumT_le : ∀ {l : List Th} {f g : Th → Nat} (k : Nat), (∀ t ∈ l, f t ≤ g t + k) → sumT f l ≤ sumT g l + k * l.length
  | [], f, g, k, h => by simp [sumT]
  | u :: l, f, g, k, h => by
    have h1 := sumT_le (l := l) k fun t ht => h t (by simp [ht])
    have h2 := h u (by simp)
    simp only [sumT, List.map_cons, List.sum_cons, List.length_cons, Nat.mul_add] at h1 ⊢
    omega
theorem sumT_eq : ∀ {l : List Th} {f g : Th → Nat}, (∀ t ∈ l, f t = g t) → sumT f l = sumT g l
  | [], f, g, h => rfl
  | u :: l, f, g, h => by
    have h1 := sumT_eq (l := l) fun t ht => h t (by simp [ht])
    have h2 := h u (by simp)
    simp only [sumT, List.map_cons, List.sum_cons] at h1 ⊢
    omega
/-- What a call may cost. -/
def Cf.cost (c : Cf) (L : Nat) : Nat := c.bound.toNat + 7 * L * (3 * c.depth + 2).toNat
def Sd.phi (s : Sd) : Nat := sumT (Th.pot s.ths.length (s.c.cost s.ths.length) s.ws) s.ths
structure Sd.Ok (c : Cf) (s : Sd) : Prop where
  cf : s.c = c
  o : c.Ok
  ws : WsOk c s.ws
  many : s.ths.length ≤ 8
  th : ∀ t ∈ s.ths, ∀ m, t.now = some m → m.Wf c ∧ m.done = false
  kinds : ∀ t ∈ s.ths, ∀ x ∈ t.left, x.kindOk
theorem Mc.cost_le {c : Cf} {m : Mc} (o : c.Ok) (W : m.Wf c) (ws : List Int) (L : Nat) : m.mu ws + 7 * L * m.wl ≤ c.cost L := by
  have h := Mc.mu_bound o W ws
  have hb := o.bound
  unfold Cf.cost
  have h1 : m.mu ws ≤ c.bound.toNat := by omega
  have h2 : m.wl ≤ (3 * c.depth + 2).toNat := by omega
  have := Nat.mul_le_mul_left (7 * L) h2
  omega
theorem Cf.cost_pos {c : Cf} (o : c.Ok) (L : Nat) : 1 ≤ c.cost L := by
  have hb := o.bound
  unfold Cf.cost
  omega
theorem mem_set {l : List Th} {i : Nat} {u t : Th} (h : t ∈ l.set i u) : t = u ∨ t ∈ l := by
  rcases List.mem_or_eq_of_mem_set h with h | h
  · exact .inr h
  · exact .inl h
/-- A step of a thread's machine. -/
theorem Sd.stepT_ok {c : Cf} {s : Sd} {i : Nat} {t : Th} {m : Mc} (H : s.Ok c) (ht : s.ths[i]? = some t) (hm : t.now = some m) : (s.stepT i t m).Ok c ∧ (s.stepT i t m).phi < s.phi ∧ (s.stepT i t m).ths.length = s.ths.length := by
  have hmem := List.mem_of_getElem? ht
  obtain ⟨hw, hd⟩ := H.th t hmem m hm
  obtain ⟨hw', hws⟩ := Mc.step_wf H.o hw H.ws
  obtain ⟨hmu, hwr⟩ := Mc.mu_step (ws := s.ws) H.o hw hd
  have hi := (List.getElem?_eq_some_iff.1 ht).1
  obtain ⟨now', hn', hc', hth', hws', hpot⟩ : ∃ now' : Option Mc, (∀ m', now' = some m' → m' = (m.stepX s.ws).1 ∧ m'.done = false) ∧ (s.stepT i t m).c = s.c ∧ (s.stepT i t m).ths = s.ths.set i { t with now := now' } ∧ (s.stepT i t m).ws = (m.stepX s.ws).2 ∧
      ∀ L C0 ws, Th.pot L C0 ws { t with now := now' } ≤ (m.stepX s.ws).1.mu ws + 7 * L * (m.stepX s.ws).1.wl + t.left.length * C0 := by
    by_cases e : (m.stepX s.ws).1.done = true
    · refine ⟨none, ?_, ?_, ?_, ?_, ?_⟩
      · rintro m' ⟨⟩
      · simp only [Sd.stepT, e, if_true, Sd.tell]
      · simp only [Sd.stepT, e, if_true, Sd.tell]
      · simp only [Sd.stepT, e, if_true, Sd.tell]
      · intro L C0 ws; simp only [Th.pot]; omega
    · refine ⟨some (m.stepX s.ws).1, ?_, ?_, ?_, ?_, ?_⟩
      · rintro m' ⟨⟩; exact ⟨rfl, by simpa using e⟩
      · simp only [Sd.stepT, e, if_false, Bool.false_eq_true]
      · simp only [Sd.stepT, e, if_false, Bool.false_eq_true]
      · simp only [Sd.stepT, e, if_false, Bool.false_eq_true]
      · intro L C0 ws; simp only [Th.pot]; omega
  have hlen : (s.stepT i t m).ths.length = s.ths.length := by rw [hth']; simp
  refine ⟨⟨hc'.trans H.cf, H.o, by rw [hws']; exact hws, by rw [hlen]; exact H.many, fun u hu m' hm' => ?_, fun u hu x hx => ?_⟩, ?_, hlen⟩
  · rw [hth'] at hu
    rcases mem_set hu with rfl | hu
    · obtain ⟨rfl, hd'⟩ := hn' m' hm'
      exact ⟨hw', hd'⟩
    · exact H.th u hu m' hm'
  · rw [hth'] at hu
    rcases mem_set hu with rfl | hu
    · exact H.kinds t hmem x hx
    · exact H.kinds u hu x hx
  · unfold Sd.phi
    rw [hlen, hc', hth', hws', sumT_set _ ht, sumT_at _ ht]
    generalize hL : s.ths.length = L
    generalize hC : s.c.cost L = C0
    have h1 := hpot L C0 (m.stepX s.ws).2
    have h2 : Th.pot L C0 s.ws t = m.mu s.ws + 7 * L * m.wl + t.left.length * C0 := by simp only [Th.pot, hm]
    have hel : (s.ths.eraseIdx i).length + 1 = L := by rw [List.length_eraseIdx_of_lt hi, ← hL]; omega
    have hall : ∀ u ∈ s.ths.eraseIdx i, ∀ m', u.now = some m' → m'.Wf c := fun u hu m' hm' => (H.th u (List.mem_of_mem_eraseIdx hu) m' hm').1
    rcases hwr with ⟨hsame, hwl⟩ | hwl
    · have h3 : sumT (Th.pot L C0 (m.stepX s.ws).2) (s.ths.eraseIdx i) = sumT (Th.pot L C0 s.ws) (s.ths.eraseIdx i) := sumT_eq fun u hu => by
        unfold Th.pot
        cases hn : u.now with
        | none => rfl
        | some m' => simp only [(Mc.mu_other H.o (hall u hu m' hn)).2 hsame]
      have h4 := Nat.mul_le_mul_left (7 * L) hwl
      omega
    · have h3 : sumT (Th.pot L C0 (m.stepX s.ws).2) (s.ths.eraseIdx i) ≤ sumT (Th.pot L C0 s.ws) (s.ths.eraseIdx i) + 7 * (s.ths.eraseIdx i).length := sumT_le 7 fun u hu => by
        unfold Th.pot
        cases hn : u.now with
        | none => simp
        | some m' =>
          have := (Mc.mu_other (ws := s.ws) (ws' := (m.stepX s.ws).2) H.o (hall u hu m' hn)).1
          simp only; omega
      have h4 := Nat.mul_le_mul_left (7 * L) hwl
      rw [Nat.mul_add] at h4
      have h5 : 7 * (s.ths.eraseIdx i).length + 7 = 7 * L := by omega
      omega
theorem Sd.pick_ok {c : Cf} {s : Sd} (H : s.Ok c) (i : Int) : (s.pick i).1.Ok c ∧ ((s.pick i).2 = true → (s.pick i).1.phi < s.phi) := by
  by_cases hi : i < 0 ∨ (s.ths.length : Int) ≤ i
  · rw [Sd.pick_out hi]; exact ⟨H, fun h => by cases h⟩
  · obtain ⟨j, rfl⟩ := Int.eq_ofNat_of_zero_le (show 0 ≤ i by omega)
    have hj : j < s.ths.length := by omega
    obtain ⟨t, ht⟩ : ∃ t, s.ths[j]? = some t := ⟨_, List.getElem?_eq_getElem hj⟩
    have hmem := List.mem_of_getElem? ht
    by_cases hid : t.idle = true
    · rw [Sd.pick_idle ht hid]; exact ⟨H, fun h => by cases h⟩
    · obtain ⟨left, what, now⟩ := t
      cases now with
      | some m =>
        rw [Sd.pick_some ht rfl]
        have := Sd.stepT_ok H ht rfl
        exact ⟨this.1, fun _ => this.2.1⟩
      | none =>
        cases left with
        | nil => exact absurd rfl hid
        | cons x xs =>
          rw [Sd.pick_begin ht]
          have hk := H.kinds _ hmem x (by simp)
          have hks : ∀ y ∈ xs, y.kindOk := fun y hy => H.kinds _ hmem y (by simp [hy])
          have hpt : ∀ L C0, Th.pot L C0 s.ws ⟨x :: xs, what, none⟩ = (xs.length + 1) * C0 := by intro L C0; simp [Th.pot]
          by_cases hck : s.c.check x = 0
          · rw [if_pos hck]
            have hck' : c.check x = 0 := H.cf ▸ hck
            obtain ⟨hw, hd⟩ := Mc.new_wf (t := j) H.o hk hck'
            rw [← H.cf] at hw
            have H6 : Sd.Ok c ({ { s with ths := s.ths.set j ⟨xs, x, none⟩ }.tell j 1 x .zero with ths := s.ths.set j ⟨xs, x, some (s.c.newMc j x)⟩ } : Sd) := by
              refine ⟨H.cf, H.o, H.ws, by simpa using H.many, fun u hu m' hm' => ?_, fun u hu y hy => ?_⟩
              · rcases mem_set hu with rfl | hu
                · cases hm'
                  exact ⟨H.cf ▸ hw, by rw [H.cf]; exact hd⟩
                · exact H.th u hu m' hm'
              · rcases mem_set hu with rfl | hu
                · exact hks y hy
                · exact H.kinds u hu y hy
            have h6 := Sd.stepT_ok H6 (i := j) (t := ⟨xs, x, some (s.c.newMc j x)⟩) (m := s.c.newMc j x) (by simp [hj]) rfl
            refine ⟨h6.1, fun _ => Nat.lt_of_lt_of_le h6.2.1 ?_⟩
            unfold Sd.phi
            simp only [Sd.tell, List.length_set]
            rw [sumT_set _ ht, sumT_at _ ht, hpt]
            have h7 := Mc.cost_le H.o (H.cf ▸ hw) s.ws s.ths.length
            have h8 : Th.pot s.ths.length (s.c.cost s.ths.length) s.ws ⟨xs, x, some (s.c.newMc j x)⟩ = (s.c.newMc j x).mu s.ws + 7 * s.ths.length * (s.c.newMc j x).wl + xs.length * s.c.cost s.ths.length := by simp only [Th.pot]
            rw [h8, Nat.add_mul]
            rw [← H.cf] at h7
            omega
          · rw [if_neg hck]
            refine ⟨⟨H.cf, H.o, H.ws, by simpa [Sd.tell] using H.many, fun u hu m' hm' => ?_, fun u hu y hy => ?_⟩, fun _ => ?_⟩
            · rcases mem_set hu with rfl | hu
              · cases hm'
              · exact H.th u hu m' hm'
            · rcases mem_set hu with rfl | hu
              · exact hks y hy
              · exact H.kinds u hu y hy
            · unfold Sd.phi
              simp only [Sd.tell, List.length_set]
              rw [sumT_set _ ht, sumT_at _ ht, hpt, Nat.add_mul]
              have h8 : Th.pot s.ths.length (s.c.cost s.ths.length) s.ws ⟨xs, x, none⟩ = xs.length * s.c.cost s.ths.length := by simp [Th.pot]
              rw [h8]
              have := Cf.cost_pos H.o s.ths.length
              rw [← H.cf] at this
              omega
end Go.BL
