/- Structs and slices that are made; slicing; calls; a function's beginning and its return. -/
import Derived.Test.YtnfcoikbkmhggaaGreatOps2
set_option linter.all false
set_option linter.unusedVariables false
set_option linter.unusedSimpArgs false
namespace Go.BL
variable {P : Program} {F h : Hp} {N : Nat} {l : TL} {K : Value → Hp → Prop} {o : Oper}

theorem opv_build {t n by_ : Nat} {z : Value} {zs cs' : List Value} {places : List (Nat × Nat)} {parts : Array (Nat × Operand)} {vs : List (Nat × Value)} (hop : o.op = .build t parts) (hp : evP l parts.toList = some vs)
    [ti : TI P t n by_ z] [ts : TS P t places] [cl : CellsL z zs] [f : FillL places zs vs cs'] (hk : K (.agg cs'.toArray) h) : OPV P F N o l h K := by
  refine opv_sem (s := Instr.build t vs.toArray) (fun a e => by simp only [execOp, hop, e.evPA hp]) ?_
  obtain ⟨fs, hu, hs⟩ := ts.s
  unfold Instr.build
  refine .bind' (.zeroValue ti (.bind' (.underlying ⟨hu⟩ ?_)))
  simp only []
  refine .bind' (.still hs ?_)
  have e := f.f
  have e2 : (fun (i : Nat) => places.toArray[i]?) = (fun (i : Nat) => places[i]?) := by funext i; simp
  simp only [cl.c, e2, e]
  exact .pure' hk

/-- So many times over. -/
class RepL (zs : List Value) (n : Nat) (cs : outParam (List Value)) : Prop where
  r : (List.replicate n zs).flatten = cs
class AppL (xs ys : List Value) (zs : outParam (List Value)) : Prop where
  a : xs ++ ys = zs
instance {ys : List Value} : AppL [] ys ys := ⟨rfl⟩
instance {x : Value} {xs ys zs : List Value} [i : AppL xs ys zs] : AppL (x :: xs) ys (x :: zs) := ⟨by rw [List.cons_append, i.a]⟩
instance {zs : List Value} : RepL zs 0 [] := ⟨rfl⟩
instance {zs cs cs' : List Value} {n : Nat} [i : RepL zs n cs] [a : AppL zs cs cs'] : RepL zs (n + 1) cs' := ⟨by rw [List.replicate_succ, List.flatten_cons, i.r, a.a]⟩

theorem rep_cells (zs : List Value) (n : Nat) (hz : zs ≠ []) : (Array.range (n * zs.length)).map (fun i => zs.toArray[i % zs.toArray.size]!) = (List.replicate n zs).flatten.toArray := by
  apply Array.toList_inj.1
  have hpos : 0 < zs.length := List.length_pos_iff.2 hz
  simp only [Array.toList_map, Array.toList_range]
  induction n with
  | zero => simp
  | succ n ih =>
    rw [show (n + 1) * zs.length = n * zs.length + zs.length by rw [Nat.succ_mul], List.range_add, List.map_append, ih, List.replicate_succ', List.flatten_append]
    congr 1
    simp only [List.map_map, List.flatten_cons, List.flatten_nil, List.append_nil]
    apply List.ext_getElem
    · simp
    · intro i h1 h2
      simp only [List.length_map, List.length_range] at h1
      simp [Nat.mul_add_mod_self_right, Nat.mod_eq_of_lt h1, h1]

/-- The places of a slice's elements. -/
class FillS (size : Nat) (cs : List Value) (parts : List (Nat × Value)) (cs' : outParam (List Value)) : Prop where
  f : Instr.fill (fun i => some (i * size, size)) cs.toArray parts = some cs'.toArray
instance {size : Nat} {cs : List Value} : FillS size cs [] cs := ⟨rfl⟩
/-- Products of numerals. -/
class MulN (a b : Nat) (c : outParam Nat) : Prop where
  m : a * b = c
instance {b : Nat} : MulN 0 b 0 := ⟨Nat.zero_mul b⟩
class AddN (a b : Nat) (c : outParam Nat) : Prop where
  m : a + b = c
instance {a : Nat} : AddN a 0 a := ⟨rfl⟩
instance {a b c : Nat} [i : AddN a b c] : AddN a (b + 1) (c + 1) := ⟨by have := i.m; omega⟩
instance {a b c d : Nat} [i : MulN a b c] [j : AddN c b d] : MulN (a + 1) b d := ⟨by rw [Nat.succ_mul, i.m, j.m]⟩
instance {cs cs1 cs' vs : List Value} {i off n : Nat} {v : Value} {parts : List (Nat × Value)} [m : MulN i n off] [c : CellsL v vs] [g : LenL vs n] [p : PutL cs off vs cs1] [f : FillS n cs1 parts cs'] :
    FillS n cs ((i, v) :: parts) cs' := ⟨by rw [Instr.fill_cons (place := fun i => some (i * n, n)) (by rw [m.m]) c.c g.n p]; exact f.f⟩

theorem opv_buildSlice {t e len n by_ : Nat} {z : Value} {zs cs cs' : List Value} {parts : Array (Nat × Operand)} {vs : List (Nat × Value)} {L : List HProp} (H : Own L h) (hop : o.op = .buildSlice t len parts) (hp : evP l parts.toList = some vs)
    [u : TU P t (.slice e)] [ti : TI P e n by_ z] [cl : CellsL z zs] [ln : LenL zs n] [r : RepL zs len cs] [f : FillS n cs vs cs'] (hsz : Nat.ble (len * n) 1000 = true) (hn : Nat.blt 0 n = true) (hl : Nat.blt 0 len = true)
    (hk : ∀ b h', F b = none → Own (pt b (.cells cs'.toArray e (0, 0)) :: L) h' → K (.slice (some ⟨b, 0, none⟩) len len) h') : OPV P F N o l h K := by
  refine opv_sem (s := Instr.buildSlice t len vs.toArray) (fun a e => by simp only [execOp, hop, e.evPA hp]) ?_
  have hn' : 0 < n := by simpa [Nat.blt_eq] using hn
  have hl' : 0 < len := by simpa [Nat.blt_eq] using hl
  have hsz' : len * n ≤ 1000 := by simpa using hsz
  unfold Instr.buildSlice
  refine .bind' (.underlying u ?_)
  simp only []
  refine .bind' (.sizeOf ti ?_)
  have hpos : len * n ≠ 0 := Nat.mul_ne_zero (by omega) (by omega)
  have hbig : ¬ len * n > 2 ^ 24 := by omega
  simp only [if_neg hpos, if_neg hbig]
  refine SemS.bind' (SemS.zeroValue ti (SemS.bind' (SemS.pure' ?_)))
  have hz : zs ≠ [] := by intro x; subst x; have := ln.n; simp at this; omega
  have e1 : (Array.range (len * n)).map (fun i => z.cells[i % z.cells.size]!) = cs.toArray := by
    rw [cl.c]
    have := rep_cells zs len hz
    rw [ln.n] at this
    rw [this, r.r]
  simp only [e1, f.f]
  exact .bind' (.bind' (.new fun b hb hF => .pure' (.pure' (hk b _ hF (H.new hb)))))

/-! ### Slicing -/
theorem SemS.sliceBound {k : IntKind} {i : Int} {y : Nat} {c : BoundsCode} {K : Nat → Hp → Prop} (hi : 0 ≤ i ∧ i ≤ y) (hk : K i.toNat h) : SemS P F h (Instr.sliceBound (.int k i) y c) K := by
  unfold Instr.sliceBound
  refine .bind' (.pure' ?_)
  simp only [hi, and_self, if_true]
  exact .pure' hk

/-- xs[i:] -/
theorem opv_sliceFrom {t e n by_ : Nat} {x y : Operand} {k : IntKind} {i : Int} {b off len cap : Nat} {z : Value} (hop : o.op = .slice t x (some y) none none) [u : TU P t (.slice e)] [ti : TI P e n by_ z]
    (hx : ev l x = some (.slice (some ⟨b, off, none⟩) len cap)) (hy : ev l y = some (.int k i)) (hi : 0 ≤ i ∧ i ≤ len) (hk : K (.slice (some ⟨b, if cap = i.toNat then off else off + i.toNat * n, none⟩) (len - i.toNat) (cap - i.toNat)) h) : OPV P F N o l h K := by
  refine opv_sem (s := Instr.sliceAt t (.slice (some ⟨b, off, none⟩) len cap) (some (.int k i)) none none) (fun a e => by simp only [execOp, hop, e.ev hx, e.ev hy, Option.map_some, Option.map_none]) ?_
  unfold Instr.sliceAt
  refine .bind' (.underlying u ?_)
  simp only []
  unfold Instr.slice
  refine .bind' (.underlying u ?_)
  simp only []
  unfold Instr.sliceBounds
  refine .bind' (.bind' (.pure' (.bind' (.pure' (.bind' (.sliceBound hi (.pure' ?_)))))))
  refine .bind' (.sizeOf ti (.pure' ?_))
  have e : (if cap = i.toNat then (some ⟨b, off, none⟩ : Option Addr) else (some ⟨b, off, none⟩ : Option Addr).map (·.add (i.toNat * n))) = some ⟨b, if cap = i.toNat then off else off + i.toNat * n, none⟩ := by
    split
    · rfl
    · simp [addr_add]
  rw [e]; exact hk
/-- xs[:i] -/
theorem opv_sliceTo {t e n by_ : Nat} {x y : Operand} {k : IntKind} {i : Int} {a : Option Addr} {len cap : Nat} {z : Value} (hop : o.op = .slice t x none (some y) none) [u : TU P t (.slice e)] [ti : TI P e n by_ z]
    (hx : ev l x = some (.slice a len cap)) (hy : ev l y = some (.int k i)) (hi : 0 ≤ i ∧ i ≤ cap) (ha : ∀ p, a = some p → p.spot = none) (hk : K (.slice a i.toNat cap) h) : OPV P F N o l h K := by
  refine opv_sem (s := Instr.sliceAt t (.slice a len cap) none (some (.int k i)) none) (fun a e => by simp only [execOp, hop, e.ev hx, e.ev hy, Option.map_some, Option.map_none]) ?_
  unfold Instr.sliceAt
  refine .bind' (.underlying u ?_)
  simp only []
  unfold Instr.slice
  refine .bind' (.underlying u ?_)
  simp only []
  unfold Instr.sliceBounds
  refine .bind' (.bind' (.pure' (.bind' (.sliceBound hi (.bind' (.pure' (.pure' ?_)))))))
  refine .bind' (.sizeOf ti (.pure' ?_))
  have e : (if cap = 0 then a else a.map (·.add (0 * n))) = a := by
    split
    · rfl
    · cases a with
      | none => rfl
      | some p => simp [Addr.add]
  rw [e]; exact hk
/-- xs[i:j] -/
theorem opv_slice2 {t e n by_ : Nat} {x y y' : Operand} {k k' : IntKind} {i j : Int} {b off len cap : Nat} {z : Value} (hop : o.op = .slice t x (some y) (some y') none) [u : TU P t (.slice e)] [ti : TI P e n by_ z]
    (hx : ev l x = some (.slice (some ⟨b, off, none⟩) len cap)) (hy : ev l y = some (.int k i)) (hy' : ev l y' = some (.int k' j)) (hj : 0 ≤ j ∧ j ≤ cap) (hi : 0 ≤ i ∧ i ≤ j.toNat)
    (hk : K (.slice (some ⟨b, if cap = i.toNat then off else off + i.toNat * n, none⟩) (j.toNat - i.toNat) (cap - i.toNat)) h) : OPV P F N o l h K := by
  refine opv_sem (s := Instr.sliceAt t (.slice (some ⟨b, off, none⟩) len cap) (some (.int k i)) (some (.int k' j)) none) (fun a e => by simp only [execOp, hop, e.ev hx, e.ev hy, e.ev hy', Option.map_some, Option.map_none]) ?_
  unfold Instr.sliceAt
  refine .bind' (.underlying u ?_)
  simp only []
  unfold Instr.slice
  refine .bind' (.underlying u ?_)
  simp only []
  unfold Instr.sliceBounds
  refine .bind' (.bind' (.pure' (.bind' (.sliceBound hj (.bind' (.sliceBound hi (.pure' ?_)))))))
  refine .bind' (.sizeOf ti (.pure' ?_))
  have e : (if cap = i.toNat then (some ⟨b, off, none⟩ : Option Addr) else (some ⟨b, off, none⟩ : Option Addr).map (·.add (i.toNat * n))) = some ⟨b, if cap = i.toNat then off else off + i.toNat * n, none⟩ := by
    split
    · rfl
    · simp [addr_add]
  rw [e]; exact hk

/-! ### Lengths, the lesser, the greater -/
theorem opv_builtin {s : Sem Value} {b : Builtin} {xs : Array Operand} {ts : Array TypeId} {vs : List Value} (hop : o.op = .call { callee := .builtin b, args := xs, argTypes := ts }) (hx : evs l xs.toList = some vs)
    (hs : ∀ t cs, Go.builtin b ts t cs vs.toArray = (do pure (.value (← s)))) (H : SemS P F h s K) : OPV P F N o l h K := by
  refine ⟨Go.builtin b ts o.type (xs.map fun | .const _ => true | _ => false) vs.toArray, fun a e => ?_, ?_⟩
  · simp only [execOp, hop, resolve, e.evsA hx]
    rfl
  · rw [hs]
    exact .bind' (H.mono fun _ _ k => .pure' k)
theorem opv_len {xs : Array Operand} {t e : TypeId} {ts : List TypeId} {a : Option Addr} {n c : Nat} (hop : o.op = .call { callee := .builtin .len, args := xs, argTypes := (t :: ts).toArray }) (hx : evs l xs.toList = some [.slice a n c])
    [u : TU P t (.slice e)] (hk : K (.int .i64 n) h) : OPV P F N o l h K := by
  refine opv_builtin (s := Builtin.len_ (t :: ts).toArray o.type #[.slice a n c]) hop hx (fun t cs => rfl) ?_
  unfold Builtin.len_
  simp only [List.getElem?_toArray, List.getElem?_cons_zero]
  refine SemS.bind' (SemS.underlying u ?_)
  exact .pure' hk
theorem opv_min {xs : Array Operand} {ts : Array TypeId} {k k' : IntKind} {a b : Int} (hop : o.op = .call { callee := .builtin .min, args := xs, argTypes := ts }) (hx : evs l xs.toList = some [.int k a, .int k' b])
    (hk : K (.int k (if b < a then b else a)) h) : OPV P F N o l h K := by
  refine opv_builtin (s := Builtin.min_ ts o.type #[.int k a, .int k' b]) hop hx (fun t cs => rfl) ?_
  unfold Builtin.min_
  exact .bind' (.pure' (.pure' hk))
theorem opv_max {xs : Array Operand} {ts : Array TypeId} {k k' : IntKind} {a b : Int} (hop : o.op = .call { callee := .builtin .max, args := xs, argTypes := ts }) (hx : evs l xs.toList = some [.int k a, .int k' b])
    (hk : K (.int k (if b > a then b else a)) h) : OPV P F N o l h K := by
  refine opv_builtin (s := Builtin.max_ ts o.type #[.int k a, .int k' b]) hop hx (fun t cs => rfl) ?_
  unfold Builtin.max_
  exact .bind' (.pure' (.pure' hk))

/-! ### Calls -/
theorem SemS.callFunc {f : FuncId} {args : Array Value} {K : Next → Hp → Prop} (hb : HasBody P f) (hk : K (.enter f args) h) : SemS P F h (callFunc f args) K := by
  obtain ⟨fn, hf, hn, hb⟩ := hb.b
  unfold Go.callFunc
  refine .bind' (.program ?_)
  simp only [hf, hn, hb, Bool.false_eq_true, if_false]
  exact .pure' hk

/-- A call of a function value that is a plain function's or a closure's. -/
theorem opv_call {x : Operand} {xs : Array Operand} {ts : Array TypeId} {f : FuncId} {fs cs vs : List Value} (hop : o.op = .call { callee := .value x, args := xs, argTypes := ts }) (hf : ev l x = some (.func (.func f) fs.toArray cs.toArray)) (hx : evs l xs.toList = some vs)
    [hb : HasBody P f] (H : CallS P F f ((fs ++ vs) ++ cs).toArray h K) : OPV P F N o l h K := by
  refine ⟨callFunc f ((fs ++ vs) ++ cs).toArray, fun a e => ?_, .callFunc hb H⟩
  simp only [execOp, hop, resolve, e.ev hf, e.evsA hx, Deferred.ofValue]
  show invoke (Target.fn (.func f) cs.toArray) (fs.toArray ++ vs.toArray) = _
  simp only [invoke, List.append_toArray]

/-- The method of a value behind an interface. -/
class Meth (P : Program) (t : TypeId) (m : String) (f : outParam FuncId) : Prop where
  m : ∀ a w es, (method (P.types.size + Made.depth) t (.pointer (some a)) m).runT P w es = (.ok (f, .pointer (some a)) w, es)
theorem opv_invoke {x : Operand} {m : String} {xs : Array Operand} {ts : Array TypeId} {t : TypeId} {p : Addr} {f : FuncId} {vs : List Value} (hop : o.op = .call { callee := .invoke x m, args := xs, argTypes := ts }) (hx : ev l x = some (.iface t (.pointer (some p)))) (hxs : evs l xs.toList = some vs)
    [mt : Meth P t m f] [hb : HasBody P f] (H : CallS P F f (.pointer (some p) :: vs).toArray h K) : OPV P F N o l h K := by
  refine ⟨callMethod (.iface t (.pointer (some p))) m vs.toArray, fun a e => ?_, ?_⟩
  · simp only [execOp, hop, resolve, e.ev hx, e.evsA hxs]
    show invoke (Target.fn (.method m) #[]) (#[.iface t (.pointer (some p))] ++ vs.toArray) = _
    simp [invoke]
  · unfold callMethod
    refine .bind' (.program (.bind' (.still (mt.m p) ?_)))
    simp only [List.append_toArray]
    exact .callFunc hb H

/-! ### What a contract leaves is joined with what else is owned -/
theorem Leaving.frame {v : Value} {fr : Frame} {h2 : Hp} (d : Hp.dj h h2) (H : Leaving P F v fr h) : Leaving P F v fr (Hp.un h h2) := by
  obtain ⟨a, b, c, fn, e, r⟩ := H
  exact ⟨a, b, c, fn, e, (r.frame d).mono fun v' hh ⟨h', e1, _, e2, e3⟩ => by subst e3; exact ⟨e2, e1⟩⟩
theorem SemS.thaw {α : Type} {s : Sem α} {hr : Hp} {K : α → Hp → Prop} (d : Hp.dj hr h) (H : SemS P (Hp.un F hr) h s K) : SemS P F (Hp.un hr h) s fun a hh => ∃ h', hh = Hp.un hr h' ∧ Hp.dj hr h' ∧ K a h' := by
  intro w f
  have dF : Hp.dj F hr := Hp.dj_mono f.dj (Hp.le_refl _) (Hp.le_un_l _ _)
  obtain ⟨a, w', h', es, r, g, k⟩ := H w ⟨fun b o e => f.own b o (Hp.le_un_r d b o e), fun b o e => by
    rcases Hp.un_some e with x | ⟨_, x⟩
    · exact f.ro b o x
    · exact f.own b o (Hp.le_un_l _ _ b o x), Hp.dj_un_l (Hp.dj_mono f.dj (Hp.le_refl _) (Hp.le_un_r d)) d⟩
  obtain ⟨g', d'⟩ := g.thaw f d
  exact ⟨a, w', _, es, r, g', h', rfl, d', k⟩
theorem Leaving.thaw {v : Value} {fr : Frame} {hr : Hp} (d : Hp.dj hr h) (H : Leaving P (Hp.un F hr) v fr h) : Leaving P F v fr (Hp.un hr h) := by
  obtain ⟨a, b, c, fn, e, r⟩ := H
  exact ⟨a, b, c, fn, e, (r.thaw d).mono fun v' hh ⟨h', e1, _, e2, e3⟩ => by subst e3; exact ⟨e2, e1⟩⟩

theorem CallS.frame {f : FuncId} {args : Array Value} {R : Value → Hp → Prop} {h2 : Hp} (d : Hp.dj h h2) (H : CallS P F f args h R) : CallS P F f args (Hp.un h h2) fun v hh => ∃ h', hh = Hp.un h' h2 ∧ Hp.dj h' h2 ∧ R v h' := by
  intro main Stop cs hk
  refine ((H main (fun fr cs' h' => cs' = cs ∧ ∃ v, Leaving P F v fr h' ∧ fr.fn = f ∧ R v h') cs fun v fr h' a b c => Run.stop ⟨rfl, v, a, b, c⟩).frame d).bind ?_
  rintro fr cs' hh ⟨h', rfl, d', rfl, v, a, b, c⟩
  exact hk v fr _ (a.frame d') b ⟨h', rfl, d', c⟩
theorem CallS.thaw {f : FuncId} {args : Array Value} {R : Value → Hp → Prop} {hr : Hp} (d : Hp.dj hr h) (H : CallS P (Hp.un F hr) f args h R) : CallS P F f args (Hp.un hr h) fun v hh => ∃ h', hh = Hp.un hr h' ∧ Hp.dj hr h' ∧ R v h' := by
  intro main Stop cs hk
  refine ((H main (fun fr cs' h' => cs' = cs ∧ ∃ v, Leaving P (Hp.un F hr) v fr h' ∧ fr.fn = f ∧ R v h') cs fun v fr h' a b c => Run.stop ⟨rfl, v, a, b, c⟩).thaw d).bind ?_
  rintro fr cs' hh ⟨h', rfl, d', rfl, v, a, b, c⟩
  exact hk v fr _ (a.thaw d') b ⟨h', rfl, d', c⟩

/-- What is left of a heap. -/
def Hp.less (h a : Hp) : Hp := fun n => match a n with | some _ => none | none => h n
theorem Hp.less_dj (h a : Hp) : Hp.dj a (Hp.less h a) := fun n => by
  unfold Hp.less
  cases e : a n with
  | none => exact .inl rfl
  | some o => exact .inr rfl
theorem Hp.less_un {h a : Hp} (l : Hp.le a h) : h = Hp.un a (Hp.less h a) := by
  funext n
  unfold Hp.un Hp.less
  cases e : a n with
  | none => rfl
  | some o => simp [l n o e]

/-- A contract, met with some parts to be read alone (their places: ro), some handed over (own, counted anew behind that). -/
theorem callS_with {f : FuncId} {args : Array Value} {R K : Value → Hp → Prop} {L : List HProp} (ro own : List Nat) (H : Own L h)
    (spec : ∀ F' h1, Hp.le F F' → Own (takeL ro L) F' → Own (takeL own (dropL ro L)) h1 → CallS P F' f args h1 R)
    (hk : ∀ v h1 h', R v h1 → (∀ L1, Own L1 h1 → Own (L1 ++ (takeL ro L ++ dropL own (dropL ro L))) h') → K v h') : CallS P F f args h K := by
  obtain ⟨hr, hx, d1, l1, oR, oX⟩ := H.take ro
  obtain ⟨h1, h2, d2, l2, o1, o2⟩ := oX.take own
  have dr1 : Hp.dj hr h1 := Hp.dj_mono d1 (Hp.le_refl _) (Hp.le_trans (Hp.le_un_l _ _) l2)
  have dr2 : Hp.dj hr h2 := Hp.dj_mono d1 (Hp.le_refl _) (Hp.le_trans (Hp.le_un_r d2) l2)
  have d12 : Hp.dj (Hp.un hr h1) h2 := Hp.dj_un_l dr2 d2
  have lall : Hp.le (Hp.un (Hp.un hr h1) h2) h := by
    rw [Hp.un_assoc]
    exact Hp.le_trans (Hp.un_le (Hp.le_un_l _ _) (Hp.le_trans l2 (Hp.le_un_r d1))) l1
  have e := Hp.less_un lall
  have d3 := Hp.less_dj h (Hp.un (Hp.un hr h1) h2)
  have hle : Hp.le F (Hp.un F hr) := Hp.le_un_l _ _
  intro main Stop cs hcont
  refine Run.fits fun ⟨w, fw⟩ => ?_
  have go : Hp.dj F hr → Run P main F Stop (Frame.enter P f args .normal) cs h := by
    intro dF
    have c := ((spec (Hp.un F hr) h1 hle (oR.mono (Hp.le_un_r dF)) o1).thaw dr1).frame (h2 := h2) d12
    have c2 := c.frame d3
    rw [← e] at c2
    refine c2 main Stop cs ?_
    rintro v fr h' lv hf ⟨ha, rfl, da, hb, rfl, db, hc, rfl, dc, r⟩
    refine hcont v fr _ lv hf (hk v hc _ r fun L1 o => ?_)
    have hrhc : Hp.dj hc hr := Hp.dj_symm dc
    have dcb : Hp.dj hc h2 := Hp.dj_mono db (Hp.le_un_r dc) (Hp.le_refl _)
    have dr2' : Hp.dj hr h2 := Hp.dj_mono db (Hp.le_un_l _ _) (Hp.le_refl _)
    refine Own.mono (Hp.le_un_l _ _) (Own.join (h1 := hc) (h2 := Hp.un hr h2) (Hp.dj_un_r hrhc dcb) ?_ o (Own.join dr2' (Hp.le_refl _) oR o2))
    rw [← Hp.un_assoc, Hp.un_comm hrhc]
    exact Hp.le_refl _
  exact go (Hp.dj_mono fw.dj (Hp.le_refl _) (Hp.le_trans (Hp.le_un_l _ _) (Hp.le_trans (Hp.le_un_l _ _) lall)))
end Go.BL
