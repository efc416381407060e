/- What all picks keep bears them: for the contracts of the loops. -/
import Derived.Test.YtnfcoikbkmhggaaGreatSdLaw
import Derived.Test.YtnfcoikbkmhggaaGreatLoops
set_option linter.all false
set_option linter.unusedVariables false
set_option linter.unusedSimpArgs false
namespace Go.BL
theorem Cf.Ok.ct3N {c : Cf} (o : c.Ok) (v : Nat) : (c.counterAt v + 3).toNat = c.pl v (5 + c.S) := by
  unfold Cf.counterAt Cf.leaseAt
  have := o.pl v (5 + c.S)
  have := o.S.1
  omega
theorem Cf.Ok.fresh_live {c : Cf} (o : c.Ok) : ∀ n, n ≤ c.N → ∀ v, v < n → rd (c.freshN n) (c.pl v (5 + c.S)) = 1
  | 0, _, _, h => by omega
  | n + 1, hn, v, hv => by
    rw [c.freshN_succ]
    unfold Cf.layW
    rw [o.ct3N, o.limN, o.avN]
    have hE := o.E.2
    have hlen : c.pl n (5 + c.S) < (((c.freshN n).set (c.pl n 0) (c.limits.getD n 0)).set (c.pl n 1) (c.limits.getD n 0)).length := by
      simp only [List.length_set, c.freshN_length, o.szN]
      exact c.pl_lt (show n < c.N by omega) (by omega) _
    rw [rd_set _ _ _ _ hlen]
    by_cases e : v = n
    · subst e; rw [if_pos rfl]
    · rw [if_neg (c.pl_ne' (by omega) (by omega) (fun h => e h.symm)), rd_set_ne (c.pl_ne (by omega) (by omega) (by omega)), rd_set_ne (c.pl_ne (by omega) (by omega) (by omega))]
      exact o.fresh_live n (by omega) v (by omega)
theorem Cf.Ok.fresh_ok {c : Cf} (o : c.Ok) : WsOk c c.freshW :=
  ⟨by unfold Cf.freshW; rw [c.freshN_length], fun v hv => by unfold Cf.freshW; rw [o.fresh_live c.parents.length (Nat.le_refl _) v hv]; exact ⟨.inl rfl, by have := o.stripes; omega⟩⟩
/-- A script that is taken. -/
structure ScOk (c : Cf) (cs : List (List Cl)) : Prop where
  many : cs.length ≤ 8
  rows : ∀ l ∈ cs, l.length ≤ 8
  kinds : ∀ l ∈ cs, ∀ x ∈ l, x.kindOk
theorem Cf.cost_le {c : Cf} (o : c.Ok) {L : Nat} (hL : L ≤ 8) : c.cost L ≤ 3000 := by
  have hb := o.bound
  have hd := c.depth_le c.parents.length
  have hd1 : c.depth ≤ 13 := hd.2
  have hd0 : 0 ≤ c.depth := hd.1
  unfold Cf.cost
  have h1 : 7 * L * (3 * c.depth + 2).toNat ≤ 56 * 41 := Nat.mul_le_mul (by omega) (by omega)
  omega
theorem Sd.new_ok {c : Cf} {cs : List (List Cl)} (o : c.Ok) (H : ScOk c cs) : (Sd.new c cs).Ok c ∧ (Sd.new c cs).phi ≤ 200000 := by
  have hth : ∀ t ∈ (Sd.new c cs).ths, ∃ l ∈ cs, t = ⟨l, .zero, none⟩ := by
    intro t ht
    simp only [Sd.new, List.mem_map] at ht
    obtain ⟨l, hl, rfl⟩ := ht
    exact ⟨l, hl, rfl⟩
  refine ⟨⟨rfl, o, o.fresh_ok, by simpa [Sd.new] using H.many, fun t ht m hm => ?_, fun t ht x hx => ?_⟩, ?_⟩
  · obtain ⟨l, _, rfl⟩ := hth t ht; cases hm
  · obtain ⟨l, hl, rfl⟩ := hth t ht; exact H.kinds l hl x hx
  · unfold Sd.phi
    have hl : (Sd.new c cs).ths.length = cs.length := by simp [Sd.new]
    have hm := H.many
    have hc := Cf.cost_le (L := cs.length) o hm
    have h1 : sumT (Th.pot (Sd.new c cs).ths.length ((Sd.new c cs).c.cost (Sd.new c cs).ths.length) (Sd.new c cs).ws) (Sd.new c cs).ths ≤ sumT (fun _ => 0) (Sd.new c cs).ths + (8 * c.cost cs.length) * (Sd.new c cs).ths.length := sumT_le _ fun t ht => by
      obtain ⟨l, hl2, rfl⟩ := hth t ht
      have := Nat.mul_le_mul_right (c.cost cs.length) (H.rows l hl2)
      rw [hl]
      show Th.pot _ (c.cost cs.length) _ _ ≤ _
      simp only [Th.pot]; omega
    have h2 : ∀ l : List Th, sumT (fun _ => 0) l = 0 := by
      intro l; induction l with
      | nil => rfl
      | cons t l ih => simp only [sumT, List.map_cons, List.sum_cons] at ih ⊢; omega
    rw [h2, hl] at h1
    have h3 : 8 * c.cost cs.length * cs.length ≤ 24000 * 8 := Nat.mul_le_mul (by omega) hm
    rw [hl]
    omega
/-- What is kept. -/
def Sd.Kept (c : Cf) (s : Sd) : Prop := s.Ok c ∧ s.n + s.phi ≤ 2 ^ 28 ∧ s.evs.length + 2 * s.phi ≤ 2 ^ 28
theorem Sd.new_kept {c : Cf} {cs : List (List Cl)} (o : c.Ok) (H : ScOk c cs) : (Sd.new c cs).Kept c := by
  have := Sd.new_ok o H
  refine ⟨this.1, ?_, ?_⟩
  · show 0 + _ ≤ _; omega
  · show 0 + _ ≤ _; omega
theorem WsOk.len_lt {c : Cf} {ws : List Int} (H : WsOk c ws) (o : c.Ok) : ws.length < 1000 := by
  rw [H.len]; have := o.size; omega
theorem Mc.fits_of {c : Cf} {m : Mc} {ws : List Int} (o : c.Ok) (H : WsOk c ws) (W : m.Wf c) : m.fits ws.length := by
  have hE := o.E.2
  have hS := o.S.2
  cases m with
  | sh s => obtain ⟨v, hv, h1, h2⟩ := W; exact ⟨by rw [h1]; exact H.lt o hv (by omega), by rw [h2]; exact H.lt o hv (by omega)⟩
  | pk s => obtain ⟨v, hv, h1⟩ := W; show s.base < _; rw [h1]; exact H.lt o hv (by omega)
  | ct s => trivial
  | am s => trivial
  | rm s => trivial
theorem Sd.kept_inv {c : Cf} : Sd.Inv (Sd.Kept c) Sd.phi c := by
  refine ⟨fun s H => ?_, fun s i H => ?_, fun s H => H.1.cf, fun s H => by have := H.2.1; omega, fun s i H => (Sd.pick_ok H.1 i).2⟩
  · obtain ⟨K, h1, h2⟩ := H
    refine ⟨by rw [K.cf]; exact K.o, K.ws.len_lt K.o, by omega, by omega, by have := K.many; omega, fun t ht m hm => Mc.fits_of K.o K.ws (K.th t ht m hm).1, fun t ht x hx hck => ⟨K.kinds t ht x hx, fun i => ?_⟩⟩
    rw [K.cf] at hck ⊢
    exact Mc.fits_of K.o K.ws (Mc.new_wf K.o (K.kinds t ht x hx) hck).1
  · obtain ⟨K, h1, h2⟩ := H
    have hp := Sd.pick_ok K i
    have hn := s.pick_n i
    refine ⟨hp.1, ?_, ?_⟩
    · by_cases e : (s.pick i).2 = true
      · have := hp.2 e; simp only [e, if_true] at hn; omega
      · rw [Sd.pick_false s i (by simpa using e)]; exact h1
    · by_cases e : (s.pick i).2 = true
      · have := hp.2 e; simp only [e, if_true] at hn; omega
      · rw [Sd.pick_false s i (by simpa using e)]; exact h2
end Go.BL
