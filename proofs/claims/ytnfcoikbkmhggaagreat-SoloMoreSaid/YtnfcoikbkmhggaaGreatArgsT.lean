/- The arguments of this seat's statements. -/
import Derived.Test.YtnfcoikbkmhggaaGreatArgs
import Derived.Test.YtnfcoikbkmhggaaGreatHead21
set_option linter.all false
set_option linter.unusedVariables false
set_option linter.unusedSimpArgs false
namespace Go.Proofs
open Go.BL Go.ChangeShapes Go.WideShapes Go.RowKit Go.Deep
variable {H : Type} {enc : TypeId × Value → H} {W : World} {sp : Nat → Bool} {hd : Bool} {fuel : Nat} {cs : List Value} {x : DataW H × List MemPlace}
theorem Tryz.cells3 : Tryz.prog.cellsOf 3 = 1 := by kernel_rfl
theorem Tryz.cells22 : Tryz.prog.cellsOf 22 = 1 := by kernel_rfl
theorem Tryz.cells24 : Tryz.prog.cellsOf 24 = 8 := by kernel_rfl
theorem Tryz.cells41 : Tryz.prog.cellsOf 41 = 1 := by kernel_rfl
theorem Tryz.cells70 : Tryz.prog.cellsOf 70 = 3 := by kernel_rfl
theorem Tryz.cells29 : Tryz.prog.cellsOf 29 = 1 := by kernel_rfl
theorem open_int1 (h : DataW.trod enc Tryz.prog W 0 sp hd fuel 3 cs = some x) : ∃ n, cs = [.int .i64 n] ∧ IntOk n := by
  obtain ⟨n, e, _, hw⟩ := DataW.trod_int Tryz.underlying3 h
  exact ⟨n, e, intOk_of_wf hw⟩
theorem ints_flat : ∀ xs : List Int, (xs.map fun m => [Value.int .i64 m]).flatten = ints xs
  | [] => rfl
  | y :: ys => by rw [List.map_cons, List.flatten_cons, ints_flat ys]; rfl
theorem open_ints (h : DataW.trod enc Tryz.prog W 0 sp hd fuel 22 cs = some x) : ∃ (a : Option Addr) (c : Nat) (xs : List Int), cs = [.slice a xs.length c] ∧ RdI (memH W) a xs ∧ ∀ y ∈ xs, IntOk y := by
  obtain ⟨a, n, c, f, rfl, hr, _, he⟩ := open_sl Tryz.underlying22 Tryz.cells3 (by omega) h
  obtain ⟨xs, rfl, hq⟩ := list_of (fun i m => f i = [Value.int .i64 m] ∧ IntOk m) n fun i hi => by
    obtain ⟨fu, y, hy⟩ := he i hi
    exact open_int1 hy
  have e := flat_of (e := fun m => [Value.int .i64 m]) fun i x hx => (hq i x hx).1
  rw [e] at hr
  rw [ints_flat] at hr
  exact ⟨a, c, xs, rfl, hr, fun y hy => by obtain ⟨i, hi⟩ := List.mem_iff_getElem?.1 hy; exact (hq i y hi).2⟩
theorem fld {n t o K : Nat} {f : Field} {y : Option (DataW H × List MemPlace)} (hf : f.type = t) (ho : f.offset = o) (hK : Tryz.prog.cellsOf t = K)
    (h : DataW.trod enc Tryz.prog W 0 sp hd n f.type ((cs.drop f.offset).take (Tryz.prog.cellsOf f.type)) = y) : DataW.trod enc Tryz.prog W 0 sp hd n t ((cs.drop o).take K) = y := by subst hf ho hK; exact h
set_option maxRecDepth 100000 in
theorem open_conf (h : DataW.trod enc Tryz.prog W 0 sp hd fuel 24 cs = some x) : ∃ (c : Cf) (A : CA), cs = cfv c A ∧ RdC (memH W) c A := by
  obtain ⟨xs, n, _, _, hl, hxl, hf⟩ := DataW.trod_struct Tryz.underlying24 h
  rw [Tryz.cells24] at hl
  match cs, hl, xs, hxl with
  | [c0, c1, c2, c3, c4, c5, c6, c7], _, [x0, x1, x2, x3, x4, x5, x6, x7], _ =>
    have f0 : DataW.trod enc Tryz.prog W 0 sp hd n 3 [c0] = some x0 := fld (t := 3) (o := 0) (K := 1) rfl rfl Tryz.cells3 (hf 0 _ rfl)
    have f1 : DataW.trod enc Tryz.prog W 0 sp hd n 3 [c1] = some x1 := fld (t := 3) (o := 1) (K := 1) rfl rfl Tryz.cells3 (hf 1 _ rfl)
    have f2 : DataW.trod enc Tryz.prog W 0 sp hd n 3 [c2] = some x2 := fld (t := 3) (o := 2) (K := 1) rfl rfl Tryz.cells3 (hf 2 _ rfl)
    have f3 : DataW.trod enc Tryz.prog W 0 sp hd n 3 [c3] = some x3 := fld (t := 3) (o := 3) (K := 1) rfl rfl Tryz.cells3 (hf 3 _ rfl)
    have f4 : DataW.trod enc Tryz.prog W 0 sp hd n 3 [c4] = some x4 := fld (t := 3) (o := 4) (K := 1) rfl rfl Tryz.cells3 (hf 4 _ rfl)
    have f5 : DataW.trod enc Tryz.prog W 0 sp hd n 3 [c5] = some x5 := fld (t := 3) (o := 5) (K := 1) rfl rfl Tryz.cells3 (hf 5 _ rfl)
    have f6 : DataW.trod enc Tryz.prog W 0 sp hd n 22 [c6] = some x6 := fld (t := 22) (o := 6) (K := 1) rfl rfl Tryz.cells22 (hf 6 _ rfl)
    have f7 : DataW.trod enc Tryz.prog W 0 sp hd n 22 [c7] = some x7 := fld (t := 22) (o := 7) (K := 1) rfl rfl Tryz.cells22 (hf 7 _ rfl)
    obtain ⟨n0, e0, _⟩ := open_int1 f0
    obtain ⟨n1, e1, _⟩ := open_int1 f1
    obtain ⟨n2, e2, _⟩ := open_int1 f2
    obtain ⟨n3, e3, _⟩ := open_int1 f3
    obtain ⟨n4, e4, _⟩ := open_int1 f4
    obtain ⟨n5, e5, _⟩ := open_int1 f5
    obtain ⟨a6, k6, l6, e6, r6, _⟩ := open_ints f6
    obtain ⟨a7, k7, l7, e7, r7, _⟩ := open_ints f7
    cases e0; cases e1; cases e2; cases e3; cases e4; cases e5; cases e6; cases e7
    exact ⟨⟨n0, n1, n2, n3, n4, n5, l6, l7⟩, ⟨a6, k6, a7, k7⟩, rfl, ⟨r6, r7⟩⟩
set_option maxRecDepth 100000 in
theorem okWide_conf {r : Reach} {base : Nat} {v : Value} (h : Value.okWide Tryz.prog W r base 24 v) : ∃ cs, v = .agg cs := by
  unfold Value.okWide at h
  rw [Tryz.underlying24] at h
  obtain ⟨cs, e, _⟩ := h
  exact ⟨cs, e⟩
set_option maxRecDepth 100000 in
theorem read_conf {r : Reach} {base : Nat} {v : Value} {d : DataW H} {p : List MemPlace} (h : Value.okWide Tryz.prog W r base 24 v) (t : DataW.Trod enc Tryz.prog W 0 sp hd 24 v d p) : ∃ (c : Cf) (A : CA), v = .agg (cfv c A).toArray ∧ RdC (memH W) c A := by
  obtain ⟨cs, rfl⟩ := okWide_conf h
  obtain ⟨f, t⟩ := t
  obtain ⟨c, A, ec, R⟩ := open_conf t
  exact ⟨c, A, congrArg Value.agg (Array.toList_inj.1 (by simpa [Value.cells] using ec)), R⟩
end Go.Proofs
