/- What an entry of the model does over partial heaps (SemS), and runs of one goroutine (Run), whoever else steps between, as long as what is held stays. -/
import Derived.Test.YtnfcoikbkmhggaaGreatHeap
set_option linter.all false
set_option linter.unusedVariables false
set_option linter.unusedSimpArgs false
namespace Go.BL
variable {P : Program} {F h : Hp}

/-- In every world that holds F and h: s comes through, keeps what it must keep, and K holds behind it. -/
def SemS {α : Type} (P : Program) (F h : Hp) (s : Sem α) (K : α → Hp → Prop) : Prop :=
  ∀ w, Fits F h w → ∃ a w' h' es, (∀ es0, s.runT P w es0 = (.ok a w', es0 ++ es)) ∧ Guar F h w h' w' es ∧ K a h'

theorem SemS.mono {α : Type} {s : Sem α} {K K' : α → Hp → Prop} (H : SemS P F h s K) (hk : ∀ a h', K a h' → K' a h') : SemS P F h s K' :=
  fun w f => let ⟨a, w', h', es, r, g, k⟩ := H w f; ⟨a, w', h', es, r, g, hk _ _ k⟩

theorem SemS.pure {α : Type} {a : α} {K : α → Hp → Prop} (hk : K a h) : SemS P F h (.pure a) K :=
  fun w f => ⟨a, w, h, #[], fun es0 => by simp only [Sem.runT, Array.append_empty], .refl f, hk⟩

theorem SemS.bind {α β : Type} {s : Sem α} {g : α → Sem β} {K : β → Hp → Prop} (H : SemS P F h s fun a h' => SemS P F h' (g a) K) : SemS P F h (s.bind g) K := by
  intro w f
  obtain ⟨a, w1, h1, es1, r1, g1, k1⟩ := H w f
  obtain ⟨b, w2, h2, es2, r2, g2, k2⟩ := k1 w1 g1.fits
  refine ⟨b, w2, h2, es1 ++ es2, fun es0 => ?_, g1.trans g2, k2⟩
  rw [Sem.runT_bind', r1]
  simp only []
  rw [r2, Array.append_assoc]

theorem SemS.bind' {α β : Type} {s : Sem α} {g : α → Sem β} {K : β → Hp → Prop} (H : SemS P F h s fun a h' => SemS P F h' (g a) K) : SemS P F h (s >>= g) K := SemS.bind H
theorem SemS.pure' {α : Type} {a : α} {K : α → Hp → Prop} (hk : K a h) : SemS P F h (Pure.pure a : Sem α) K := SemS.pure hk
theorem SemS.map' {α β : Type} {s : Sem α} {g : α → β} {K : β → Hp → Prop} (H : SemS P F h s fun a h' => K (g a) h') : SemS P F h (g <$> s) K :=
  SemS.bind (g := fun a => Sem.pure (g a)) (H.mono fun _ _ k => SemS.pure k)

theorem SemS.program {K : Program → Hp → Prop} (hk : K P h) : SemS P F h Go.program K :=
  fun w f => ⟨P, w, h, #[], fun es0 => by simp only [Go.program, Sem.runT, Array.append_empty], .refl f, hk⟩

/-- A cell that is held. -/
theorem cell_of {F h : Hp} {w : World} (f : Fits F h w) {b off : Nat} {c : Array Value} {t : TypeId} {fr : Nat × Nat} {v : Value}
    (hb : h b = some (.cells c t fr) ∨ F b = some (.cells c t fr)) (hv : c[off]? = some v) : w.cell? ⟨b, off, none⟩ = some v := by
  simp [World.cell?, f.get hb, hv]

theorem ev_read {F h : Hp} {n b off : Nat} {o : Obj} (hb : h b = some o ∨ F b = some o) : EvOK F h n ⟨.cell ⟨b, off, none⟩, false, false⟩ := by
  refine ⟨rfl, ?_⟩
  rcases hb with e | e
  · exact .inl (by simp [e])
  · exact .inr (.inr ⟨rfl, by simp [e]⟩)

theorem SemS.load {b off : Nat} {c : Array Value} {t : TypeId} {fr : Nat × Nat} {v : Value} {K : Value → Hp → Prop}
    (hb : h b = some (.cells c t fr) ∨ F b = some (.cells c t fr)) (hv : c[off]? = some v) (hk : K v h) : SemS P F h (Go.load ⟨b, off, none⟩) K := by
  intro w f
  refine ⟨v, w, h, #[⟨.cell ⟨b, off, none⟩, false, false⟩], fun es0 => ?_, ⟨f, fun _ _ _ => rfl, Nat.le_refl _, fun _ e => .inl e, ⟨rfl, rfl, rfl⟩, fun e he => ?_⟩, hk⟩
  · simp only [Go.load, Sem.runT, cell_of f hb hv]
    simp
    rfl
  · simp at he
    subst he
    exact ev_read hb

theorem heap_setCell {w : World} {b off : Nat} {c : Array Value} {t : TypeId} {fr : Nat × Nat} {v : Value} (hb : w.heap[b]? = some (.cells c t fr)) :
    (w.setCell ⟨b, off, none⟩ v).heap[b]? = some (.cells (c.setIfInBounds off v) t fr) := by
  simp [World.setCell, Array.getElem?_modify, hb]
theorem heap_setCell_ne {w : World} {b n off : Nat} {v : Value} (hn : n ≠ b) : (w.setCell ⟨b, off, none⟩ v).heap[n]? = w.heap[n]? := by
  simp [World.setCell, Array.getElem?_modify, Ne.symm hn]
theorem size_setCell' {w : World} {a : Addr} {v : Value} : (w.setCell a v).heap.size = w.heap.size := by simp [World.setCell]

/-- One block that is owned turns; nothing else. -/
theorem Guar.set {F h : Hp} {w w' : World} {b : Nat} {o o' : Obj} {es : Array Event} (f : Fits F h w) (hb : h b = some o) (hset : w'.heap[b]? = some o') (hne : ∀ n, n ≠ b → w'.heap[n]? = w.heap[n]?)
    (hs : w'.heap.size = w.heap.size) (hr : w'.tape = w.tape ∧ w'.os = w.os ∧ w'.output = w.output) (he : ∀ e ∈ es, EvOK F h w.heap.size e) : Guar F h w (h.set b o') w' es := by
  have hFb : F b = none := by
    rcases f.dj b with x | x
    · exact x
    · rw [x] at hb; cases hb
  refine ⟨⟨fun n o2 e => ?_, fun n o2 e => ?_, fun n => ?_⟩, fun n _ e => ?_, Nat.le_of_eq hs.symm, fun n e => ?_, hr, he⟩
  · by_cases hn : n = b
    · subst hn; rw [Hp.set_same] at e; cases e; exact hset
    · rw [Hp.set_other _ _ hn] at e; rw [hne n hn]; exact f.own n o2 e
  · have hn : n ≠ b := by intro x; subst x; rw [hFb] at e; cases e
    rw [hne n hn]; exact f.ro n o2 e
  · by_cases hn : n = b
    · subst hn; exact .inl hFb
    · rw [Hp.set_other _ _ hn]; exact f.dj n
  · have hn : n ≠ b := by intro x; subst x; rw [e] at hb; cases hb
    exact hne n hn
  · by_cases hn : n = b
    · subst hn; exact .inl (by simp [hb])
    · rw [Hp.set_other _ _ hn] at e; exact .inl e

theorem SemS.store {b off : Nat} {c : Array Value} {t : TypeId} {fr : Nat × Nat} {v : Value} {K : Unit → Hp → Prop}
    (hb : h b = some (.cells c t fr)) (hoff : off < c.size) (hfr : (fr.1 ≤ off && off < fr.2) = false) (hone : v.oneCell' = true)
    (hk : K () (h.set b (.cells (c.setIfInBounds off v) t fr))) : SemS P F h (Go.store ⟨b, off, none⟩ v) K := by
  intro w f
  have hc := cell_of f (v := c[off]) (.inl hb) (Array.getElem?_eq_getElem hoff)
  have hf : w.frozen? ⟨b, off, none⟩ = false := by
    obtain ⟨lo, hi⟩ := fr
    simpa [World.frozen?, f.own b _ hb] using hfr
  refine ⟨(), w.setCell ⟨b, off, none⟩ v, h.set b (.cells (c.setIfInBounds off v) t fr), #[⟨.cell ⟨b, off, none⟩, true, false⟩], fun es0 => ?_,
    Guar.set f hb (heap_setCell (f.own b _ hb)) (fun n hn => heap_setCell_ne hn) size_setCell' ⟨rfl, rfl, rfl⟩ (fun e he => ?_), hk⟩
  · cases v <;> simp only [Go.store, Sem.runT, hc, hf] <;> first | (simp [Value.oneCell'] at hone; done) | (simp; rfl)
  · simp at he
    subst he
    exact ⟨rfl, .inl (by simp [hb])⟩

theorem Guar.new {F h : Hp} {w : World} (f : Fits F h w) (o : Obj) : Guar F h w (h.set w.heap.size o) { w with heap := w.heap.push o } #[] := by
  have hn := f.new
  refine ⟨⟨fun n o2 e => ?_, fun n o2 e => ?_, fun n => ?_⟩, fun n hn' _ => ?_, by simp, fun n e => ?_, ⟨rfl, rfl, rfl⟩, fun e he => by simp at he⟩
  · by_cases hx : n = w.heap.size
    · subst hx; rw [Hp.set_same] at e; cases e; simp
    · rw [Hp.set_other _ _ hx] at e
      have h1 := f.own n o2 e
      have h2 := (Array.getElem?_eq_some_iff.1 h1).1
      simp only [Array.getElem?_push]
      rw [if_neg hx]; exact h1
  · have h1 := f.ro n o2 e
    have h2 := (Array.getElem?_eq_some_iff.1 h1).1
    simp only [Array.getElem?_push]
    rw [if_neg (by omega)]; exact h1
  · by_cases hx : n = w.heap.size
    · subst hx; exact .inl hn.2
    · rw [Hp.set_other _ _ hx]; exact f.dj n
  · simp only [Array.getElem?_push]
    rw [if_neg (by omega)]
  · by_cases hx : n = w.heap.size
    · exact .inr (by omega)
    · rw [Hp.set_other _ _ hx] at e; exact .inl e

theorem SemS.new {o : Obj} {K : Nat → Hp → Prop} (hk : ∀ b, h b = none → F b = none → K b (h.set b o)) : SemS P F h (newObj o) K := by
  intro w f
  refine ⟨w.heap.size, { w with heap := w.heap.push o }, h.set w.heap.size o, #[], fun es0 => by simp only [newObj, Sem.runT, Array.append_empty], .new f o, hk _ f.new.1 f.new.2⟩

theorem SemS.shape {b : Nat} {c : Array Value} {t : TypeId} {fr : Nat × Nat} {K : Option (TypeId × Nat) → Hp → Prop}
    (hb : h b = some (.cells c t fr) ∨ F b = some (.cells c t fr)) (hk : K (some (t, c.size)) h) : SemS P F h (Go.shape b) K := by
  intro w f
  exact ⟨_, w, h, #[], fun es0 => by simp only [Go.shape, Sem.runT, World.shape?, f.get hb, Array.append_empty], .refl f, hk⟩

theorem SemS.frozen {b off : Nat} {c : Array Value} {t : TypeId} {fr : Nat × Nat} {K : Bool → Hp → Prop}
    (hb : h b = some (.cells c t fr) ∨ F b = some (.cells c t fr)) (hk : K (fr.1 ≤ off && off < fr.2) h) : SemS P F h (Go.frozen ⟨b, off, none⟩) K := by
  intro w f
  obtain ⟨lo, hi⟩ := fr
  exact ⟨_, w, h, #[], fun es0 => by simp only [Go.frozen, Sem.runT, World.frozen?, f.get hb, Array.append_empty], .refl f, hk⟩

theorem ev_obj {F h : Hp} {n b : Nat} {o : Obj} (hb : h b = some o ∨ F b = some o) : EvOK F h n ⟨.obj b, false, false⟩ := by
  refine ⟨rfl, ?_⟩
  rcases hb with e | e
  · exact .inl (by simp [e])
  · exact .inr (.inr ⟨rfl, by simp [e]⟩)

theorem SemS.getObj {b : Nat} {o : Obj} {K : Obj → Hp → Prop} (hb : h b = some o ∨ F b = some o) (hc : ∀ c t fr, o ≠ .cells c t fr) (hch : o.isChan = false) (hk : K o h) :
    SemS P F h (Go.getObj b) K := by
  intro w f
  refine ⟨o, w, h, #[⟨.obj b, false, false⟩], fun es0 => ?_, ⟨f, fun _ _ _ => rfl, Nat.le_refl _, fun _ e => .inl e, ⟨rfl, rfl, rfl⟩, fun e he => ?_⟩, hk⟩
  · simp only [Go.getObj, Sem.runT, f.get hb]
    cases o <;> first | exact absurd rfl (hc _ _ _) | (simp_all [Obj.isChan]; done) | simp [Obj.isChan]
  · simp at he
    subst he
    exact ev_obj hb

theorem SemS.setObj {b : Nat} {o o' : Obj} {K : Unit → Hp → Prop} (hb : h b = some o) (hc : ∀ c t fr, o ≠ .cells c t fr) (hch : o'.isChan = false) (hk : K () (h.set b o')) :
    SemS P F h (Go.setObj b o') K := by
  intro w f
  have hw := f.own b o hb
  have hlt := (Array.getElem?_eq_some_iff.1 hw).1
  refine ⟨(), { w with heap := w.heap.setIfInBounds b o' }, h.set b o', #[⟨.obj b, true, false⟩], fun es0 => ?_,
    Guar.set f hb (by simp [hlt]) (fun n hn => by simp [Ne.symm hn]) (by simp) ⟨rfl, rfl, rfl⟩ (fun e he => ?_), hk⟩
  · simp only [Go.setObj, Sem.runT, hw]
    cases o <;> first | exact absurd rfl (hc _ _ _) | simp [hch]
  · simp at he
    subst he
    exact ⟨rfl, .inl (by simp [hb])⟩

theorem SemS.choose {q : Question} {K : Nat → Hp → Prop} (hk : ∀ n, (q.forced = true → n = 0) → (q.forced = false → ∃ m, n = q.cut m) → K n h) : SemS P F h (Go.choose q) K := by
  intro w f
  by_cases hq : q.forced = true
  · exact ⟨0, w, h, #[], fun es0 => by simp only [Go.choose, Sem.runT, hq, if_true, Array.append_empty], .refl f, hk 0 (fun _ => rfl) (fun x => by rw [hq] at x; cases x)⟩
  · refine ⟨q.cut (w.tape w.drawn q), { w with drawn := w.drawn + 1 }, h, #[], fun es0 => by simp only [Go.choose, Sem.runT, hq, if_false, Array.append_empty, Bool.false_eq_true], ?_, hk _ (fun x => absurd x hq) (fun _ => ⟨_, rfl⟩)⟩
    exact ⟨⟨f.own, f.ro, f.dj⟩, fun _ _ _ => rfl, Nat.le_refl _, fun _ e => .inl e, ⟨rfl, rfl, rfl⟩, fun e he => by simp at he⟩

theorem SemS.markRoom {K : Unit → Hp → Prop} (hk : K () h) : SemS P F h (Go.mark .noRoom) K :=
  fun w f => ⟨(), w, h, #[⟨.mark .noRoom, false, true⟩], fun es0 => by simp only [Go.mark, Sem.runT]; simp,
    ⟨f, fun _ _ _ => rfl, Nat.le_refl _, fun _ e => .inl e, ⟨rfl, rfl, rfl⟩, fun e he => by simp at he; subst he; exact .inl rfl⟩, hk⟩

/-! ### Frames at the level of an entry -/
theorem SemS.frame {α : Type} {s : Sem α} {h2 : Hp} {K : α → Hp → Prop} (d : Hp.dj h h2) (H : SemS P F h s K) : SemS P F (Hp.un h h2) s fun a hh => ∃ h', hh = Hp.un h' h2 ∧ Hp.dj h' h2 ∧ K a h' := by
  intro w f
  obtain ⟨a, w', h', es, r, g, k⟩ := H w (f.mono (Hp.le_refl _) (Hp.le_un_l _ _))
  obtain ⟨g', d'⟩ := g.frame f d
  exact ⟨a, w', _, es, r, g', h', rfl, d', k⟩

theorem foldl_sub (f : Bool × Array Event → Event → Bool × Array Event) (hf : ∀ x e, ∀ y ∈ (f x e).2, y ∈ x.2 ∨ y = e) :
    ∀ (l : List Event) (x : Bool × Array Event), ∀ y ∈ (l.foldl f x).2, y ∈ x.2 ∨ y ∈ l
  | [], _, y, h => .inl h
  | e :: l, x, y, h => by
    rcases foldl_sub f hf l (f x e) y h with a | a
    · rcases hf x e y a with b | b
      · exact .inl b
      · exact .inr (by simp [b])
    · exact .inr (by simp [a])
theorem mem_seen {P : Program} {fn : FuncId} {es : Array Event} {e : Event} (h : e ∈ seen P fn es) : e ∈ es := by
  dsimp only [seen] at h
  rw [← Array.foldl_toList] at h
  rcases foldl_sub _ (fun x e y hy => by
    obtain ⟨q, kept⟩ := x
    dsimp only at hy ⊢
    split at hy
    · exact .inl hy
    · dsimp only at hy
      split at hy
      · exact .inl hy
      · exact (Array.mem_push.1 hy)) _ _ _ h with a | a
  · simp at a
  · exact Array.mem_toList_iff.1 a
theorem Guar.less {F h h' : Hp} {w w' : World} {es es' : Array Event} (g : Guar F h w h' w' es) (hs : ∀ e ∈ es', e ∈ es) : Guar F h w h' w' es' :=
  ⟨g.fits, g.keep, g.size, g.dom, g.rest, fun e he => g.evs e (hs e he)⟩

/-! ### Runs -/

/-- One step of the goroutine by itself. -/
def StepTo (P : Program) (main : Bool) (fr : Frame) (cs : List Frame) (w : World) (fr' : Frame) (cs' : List Frame) (w' : World) (es : Array Event) : Prop :=
  stepG P main { frame := fr, callers := cs, status := .running, dying := none } w = .go { frame := fr', callers := cs', status := .running, dying := none } w' es

abbrev StopT := Frame → List Frame → Hp → Prop

/-- Some steps on there is a stop: whatever the world is at each step, as long as it holds what is held. -/
def Run (P : Program) (main : Bool) (F : Hp) (Stop : StopT) (fr : Frame) (cs : List Frame) (h : Hp) : Prop :=
  ∀ X : StopT, (∀ fr cs h, Stop fr cs h → X fr cs h) →
    (∀ fr cs h, (∀ w, Fits F h w → ∃ fr' cs' h' w' es, StepTo P main fr cs w fr' cs' w' es ∧ Guar F h w h' w' es ∧ X fr' cs' h') → X fr cs h) → X fr cs h

variable {main : Bool} {Stop Stop' : StopT} {fr : Frame} {cs : List Frame}

theorem Run.stop (hs : Stop fr cs h) : Run P main F Stop fr cs h := fun _ a _ => a _ _ _ hs

theorem Run.step (H : ∀ w, Fits F h w → ∃ fr' cs' h' w' es, StepTo P main fr cs w fr' cs' w' es ∧ Guar F h w h' w' es ∧ Run P main F Stop fr' cs' h') : Run P main F Stop fr cs h :=
  fun X a b => b _ _ _ fun w f => let ⟨fr', cs', h', w', es, s, g, r⟩ := H w f; ⟨fr', cs', h', w', es, s, g, r X a b⟩

theorem Run.bind (H : Run P main F Stop fr cs h) (hk : ∀ fr cs h, Stop fr cs h → Run P main F Stop' fr cs h) : Run P main F Stop' fr cs h :=
  H (Run P main F Stop') hk fun _ _ _ H => Run.step H

/-- A step that touches no memory. -/
theorem Run.quiet {fr' : Frame} {cs' : List Frame} (hs : ∀ w, StepTo P main fr cs w fr' cs' w #[]) (H : Run P main F Stop fr' cs' h) : Run P main F Stop fr cs h :=
  Run.step fun w f => ⟨fr', cs', h, w, #[], hs w, .refl f, H⟩

theorem Run.frame {h2 : Hp} (d : Hp.dj h h2) (H : Run P main F Stop fr cs h) : Run P main F (fun fr cs hh => ∃ h', hh = Hp.un h' h2 ∧ Hp.dj h' h2 ∧ Stop fr cs h') fr cs (Hp.un h h2) := by
  refine H (fun fr cs h => Hp.dj h h2 → Run P main F (fun fr cs hh => ∃ h', hh = Hp.un h' h2 ∧ Hp.dj h' h2 ∧ Stop fr cs h') fr cs (Hp.un h h2)) ?_ ?_ d
  · intro fr cs h hs d
    exact Run.stop ⟨h, rfl, d, hs⟩
  · intro fr cs h H d
    refine Run.step fun w f => ?_
    obtain ⟨fr', cs', h', w', es, s, g, k⟩ := H w (f.mono (Hp.le_refl _) (Hp.le_un_l _ _))
    obtain ⟨g', d'⟩ := g.frame f d
    exact ⟨fr', cs', _, w', es, s, g', k d'⟩

theorem Run.thaw {hr : Hp} (d : Hp.dj hr h) (H : Run P main (Hp.un F hr) Stop fr cs h) : Run P main F (fun fr cs hh => ∃ h', hh = Hp.un hr h' ∧ Hp.dj hr h' ∧ Stop fr cs h') fr cs (Hp.un hr h) := by
  refine H (fun fr cs h => Hp.dj hr h → Run P main F (fun fr cs hh => ∃ h', hh = Hp.un hr h' ∧ Hp.dj hr h' ∧ Stop fr cs h') fr cs (Hp.un hr h)) ?_ ?_ d
  · intro fr cs h hs d
    exact Run.stop ⟨h, rfl, d, hs⟩
  · intro fr cs h H d
    refine Run.step fun w f => ?_
    have dF : Hp.dj F hr := Hp.dj_mono f.dj (Hp.le_refl _) (Hp.le_un_l _ _)
    obtain ⟨fr', cs', h', w', es, s, g, k⟩ := H w ⟨fun b o e => f.own b o (Hp.le_un_r d b o e),
      fun b o e => by
        rcases Hp.un_some e with x | ⟨_, x⟩
        · exact f.ro b o x
        · exact f.own b o (Hp.le_un_l _ _ b o x), Hp.dj_un_l (Hp.dj_mono f.dj (Hp.le_refl _) (Hp.le_un_r d)) d⟩
    obtain ⟨g', d'⟩ := g.thaw f d
    exact ⟨fr', cs', _, w', es, s, g', k d'⟩

theorem Run.mono_ro {F' : Hp} (hF : Hp.le F F') (H : Run P main F Stop fr cs h) : Run P main F' Stop fr cs h := by
  refine H (Run P main F' Stop) (fun _ _ _ hs => Run.stop hs) fun fr cs h H => Run.step fun w f => ?_
  obtain ⟨fr', cs', h', w', es, s, g, k⟩ := H w (f.mono hF (Hp.le_refl _))
  exact ⟨fr', cs', h', w', es, s, g.mono_ro hF f, k⟩

/-- Where no world holds what is held, nothing is asked. -/
theorem Run.fits (H : (∃ w, Fits F h w) → Run P main F Stop fr cs h) : Run P main F Stop fr cs h := by
  by_cases hw : ∃ w, Fits F h w
  · exact H hw
  · exact Run.step fun w f => absurd ⟨w, f⟩ hw

/-! ### Alone -/
theorem Run.lone (H : Run P true F Stop fr cs h) {w : World} (f : Fits F h w) : ∃ fr' cs' h' w', Stop fr' cs' h' ∧ Steps P (Go.lone fr cs w) (Go.lone fr' cs' w') ∧ ∃ es, Guar F h w h' w' es := by
  refine H (fun fr cs h => ∀ w, Fits F h w → ∃ fr' cs' h' w', Stop fr' cs' h' ∧ Steps P (Go.lone fr cs w) (Go.lone fr' cs' w') ∧ ∃ es, Guar F h w h' w' es) ?_ ?_ w f
  · intro fr cs h hs w f
    exact ⟨fr, cs, h, w, hs, .refl P _, #[], .refl f⟩
  · intro fr cs h H w f
    obtain ⟨fr1, cs1, h1, w1, es1, s1, g1, k⟩ := H w f
    obtain ⟨fr2, cs2, h2, w2, hs, st, es2, g2⟩ := k w1 g1.fits
    refine ⟨fr2, cs2, h2, w2, hs, .head (step_lone_go (by rw [s1]; rfl)) st, _, g1.trans g2⟩

end Go.BL
