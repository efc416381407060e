/- From a call's contract to one good run of a machine of one goroutine, with its trace. -/
import Derived.Test.YtnfcoikbkmhggaaGreatCode
import Derived.Conc.LeavingOf
import Derived.Conc.Always
import Derived.Below
set_option linter.all false
set_option linter.unusedVariables false
set_option linter.unusedSimpArgs false
namespace Go.BL
open Go.Conc Go.RowKit
variable {P : Program} {F h : Hp}

theorem ops_g0 {fn : FuncId} {pos : String} {es : Array Event} : ∀ op ∈ MemOp.ofEvents 0 fn pos es, op.g = 0 := by
  rw [ofEvents_eq]
  intro op ho
  obtain ⟨e, _, rfl⟩ := Array.mem_map.1 ho
  rfl

theorem Run.loneT {Stop : StopT} {fr : Frame} {cs : List Frame} (H : Run P true F Stop fr cs h) {w : World} (f : Fits F h w) (t : Trace) :
    ∃ k fr' cs' h' w' es u, runNT P k (solo (G fr cs) w) t = (.next (solo (G fr' cs') w'), t ++ u) ∧ (∀ op ∈ u, op.g = 0) ∧ Stop fr' cs' h' ∧ Guar F h w h' w' es := by
  refine H (fun fr cs h => ∀ w, Fits F h w → ∀ t : Trace, ∃ k fr' cs' h' w' es u, runNT P k (solo (G fr cs) w) t = (.next (solo (G fr' cs') w'), t ++ u) ∧ (∀ op ∈ u, op.g = 0) ∧ Stop fr' cs' h' ∧ Guar F h w h' w' es) ?_ ?_ w f t
  · intro fr cs h hs w f t
    exact ⟨0, fr, cs, h, w, #[], #[], by simp [runNT], by intro op ho; simp at ho, hs, .refl f⟩
  · intro fr cs h H w f t
    obtain ⟨fr1, cs1, h1, w1, es1, s1, g1, k⟩ := H w f
    have s1 : stepG P true (G fr cs) w = .go (G fr1 cs1) w1 es1 := s1
    obtain ⟨n, fr2, cs2, h2, w2, es2, u, hr, hu, hs, g2⟩ := k w1 g1.fits (t ++ MemOp.ofEvents 0 fr.fn (G fr cs).frame.place es1)
    refine ⟨n + 1, fr2, cs2, h2, w2, es1 ++ es2, MemOp.ofEvents 0 fr.fn (G fr cs).frame.place es1 ++ u, ?_, ?_, hs, g1.trans g2⟩
    · rw [runNT_succ_next ((stepT_solo rfl).trans (runT_solo_go s1)), ← Array.append_assoc]
      exact hr
    · intro op ho
      rcases Array.mem_append.1 ho with x | x
      · exact ops_g0 op x
      · exact hu op x

theorem runT_solo_ended {a : Goroutine} {w w' : World} {o : Outcome} {es : Array Event} (h : stepG P true a w = .ended o w' es) :
    runT P (solo a w) 0 = (.ended o w', MemOp.ofEvents 0 a.frame.fn a.frame.place es) := by
  simp [runT, solo, Array.swapAt!, Array.swapAt, h, GStep.es]

/-- FROM A CONTRACT TO THE RUN. Below: nothing of old turned. -/
theorem good_of_callS {f : FuncId} {args : Array Value} {R : Value → Hp → Prop} {W : World} (hF : Fits F Hp.emp W) (hi : P.inits.idxOf? f = none) (H : CallS P F f args Hp.emp R) :
    ∃ M last o w' t', runNT P (M + 1) (solo (G (Frame.enter P f args .normal) []) W) #[] = (.ended o w', t') ∧ runN P M (solo (G (Frame.enter P f args .normal) []) W) = .next last ∧ step P last = .ended o w' ∧
      Go.Conc.Good P (fun v w' => (∃ h', R v h' ∧ Fits F h' w') ∧ Below W.heap.size W w') last o w' t' := by
  have HR : Run P true F (fun fr cs h' => cs = [] ∧ fr.fn = f ∧ ∃ v, Leaving P F v fr h' ∧ R v h') (Frame.enter P f args .normal) [] Hp.emp :=
    H true _ [] fun v fr h' hl hf hr => Run.stop ⟨rfl, hf, v, hl, hr⟩
  obtain ⟨k, fr, cs, h1, w1, es1, u, hrun, hu, ⟨rfl, hfn, v, ⟨hm, hd, hk, fn, hff, hres⟩, hR⟩, g1⟩ := HR.loneT hF #[]
  obtain ⟨v', w2, h2, es2, r, g2, rfl, rfl⟩ := hres w1 g1.fits
  have r0 := r #[]
  simp only [Array.empty_append] at r0
  have hst : stepG P true (G fr []) w1 = .ended (.done v') w2 (seen P fr.fn es2) := by
    have hi' : P.inits.idxOf? fr.fn = none := hfn ▸ hi
    have r1 : (results fn fr.tmps).run P w1 = .ok v' w2 := by rw [← Sem.runT_fst P _ w1 #[], r0]
    have r2 : (results fn fr.tmps).events P w1 #[] = es2 := by unfold Sem.events; rw [r0]
    simp [stepG, G, unwind, hm, hd, hff, r1, r2, doReturn, hk, GStep.after, hi']
  have hT := (stepT_solo (P := P) (w := w1) (a := G fr []) rfl).trans (runT_solo_ended hst)
  have g := g1.trans g2
  refine ⟨k, solo (G fr []) w1, .done v', w2, #[] ++ u ++ MemOp.ofEvents 0 fr.fn (G fr []).frame.place (seen P fr.fn es2), ?_, ?_, ?_, v', rfl, ⟨⟨_, hR, g2.fits⟩, ?_⟩, ?_, ?_, ⟨?_, rfl⟩, ?_⟩
  · rw [runNT_add, hrun]
    simp only [runNT, hT]
    rfl
  · rw [← runNT_fst P k _ #[], hrun]
  · unfold step; rw [hT]
  · exact ⟨g.rest.2.1, g.rest.1, g.rest.2.2, g.size, fun b hb => g.keep b hb rfl⟩
  all_goals
    have h0 : ∀ op ∈ (#[] ++ u ++ MemOp.ofEvents 0 fr.fn (G fr []).frame.place (seen P fr.fn es2) : Trace), op.g = 0 := by
      intro op ho
      simp only [Array.empty_append] at ho
      rcases Array.mem_append.1 ho with x | x
      · exact hu op x
      · exact ops_g0 op x
  · exact fun said => noRace_of_lone h0
  · intro i g hg hne
    obtain ⟨op, ho, rfl⟩ : ∃ op, (#[] ++ u ++ MemOp.ofEvents 0 fr.fn (G fr []).frame.place (seen P fr.fn es2) : Trace)[i]? = some op ∧ op.g = g := by
      simpa [Trace.g?] using hg
    exact absurd (h0 op (Array.mem_of_getElem? ho)) hne
  · intro g hg; simp [solo] at hg
  · intro i g hg hne
    match i, hne with
    | i + 1, _ => simp [solo] at hg
end Go.BL
