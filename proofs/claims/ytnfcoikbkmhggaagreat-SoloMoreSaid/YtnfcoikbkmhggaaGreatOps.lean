/- What single operations do, over lists of parts. -/
import Derived.Test.YtnfcoikbkmhggaaGreatOwn
import Derived.Laws.Externs
set_option linter.all false
set_option linter.unusedVariables false
set_option linter.unusedSimpArgs false
namespace Go.BL
variable {P : Program} {F h : Hp} {N : Nat} {l : TL} {K : Value → Hp → Prop} {o : Oper}

/-! ### Facts on types, found by their numbers -/
class TU (P : Program) (t : TypeId) (d : outParam TypeDesc) : Prop where
  u : P.underlying t = some d
class TI (P : Program) (t : TypeId) (size bytes : outParam Nat) (z : outParam Value) : Prop where
  i : ∃ i, P.info? t = some i ∧ i.size = size ∧ i.bytes = bytes ∧ i.zero = some z
/-- Is it a struct or an array? -/
class TA (P : Program) (t : TypeId) (b : outParam Bool) : Prop where
  a : ∃ d, P.underlying t = some d ∧ (match d with | .struct _ | .array _ _ => true | _ => false) = b
/-- It is no interface type. -/
class TN (P : Program) (t : TypeId) : Prop where
  n : ∃ d, P.underlying t = some d ∧ (match d with | .interface _ => true | _ => false) = false
/-- Field f of struct type s: where, of which type. -/
class TF (P : Program) (s : TypeId) (f : Nat) (off : outParam Nat) (ft : outParam TypeId) : Prop where
  f : ∃ fs x, P.underlying s = some (.struct fs) ∧ fs[f]? = some x ∧ x.offset = off ∧ x.type = ft
/-- All fields' places and sizes. -/
class TS (P : Program) (s : TypeId) (places : outParam (List (Nat × Nat))) : Prop where
  s : ∃ fs, P.underlying s = some (.struct fs) ∧ ∀ w es, (fs.mapM fun f => (do pure (f.offset, ← sizeOf f.type) : Sem (Nat × Nat))).runT P w es = (.ok places.toArray w, es)
/-- Function f has a body of its own. -/
class HasBody (P : Program) (f : FuncId) : Prop where
  b : ∃ fn, P.funcs[f]? = some fn ∧ (fn.name == "runtime.NumGoroutine") = false ∧ fn.body.isNone = false

theorem SemS.typeInfo {t : TypeId} {i : TypeInfo} {K : TypeInfo → Hp → Prop} (hi : P.info? t = some i) (hk : K i h) : SemS P F h (typeInfo t) K := by
  unfold Go.typeInfo
  refine .bind' (.program ?_)
  simp only [hi]
  exact .pure' hk
theorem SemS.sizeOf {t : TypeId} {n b : Nat} {z : Value} {K : Nat → Hp → Prop} (ti : TI P t n b z) (hk : K n h) : SemS P F h (sizeOf t) K := by
  obtain ⟨i, hi, rfl, _, _⟩ := ti.i
  unfold Go.sizeOf
  exact .bind' (.typeInfo hi (.pure' hk))
theorem SemS.zeroValue {t : TypeId} {n b : Nat} {z : Value} {K : Value → Hp → Prop} (ti : TI P t n b z) (hk : K z h) : SemS P F h (zeroValue t) K := by
  obtain ⟨i, hi, _, _, hz⟩ := ti.i
  unfold Go.zeroValue
  refine .bind' (.typeInfo hi ?_)
  simp only [hz]
  exact .pure' hk
theorem SemS.underlying {t : TypeId} {d : TypeDesc} {K : TypeDesc → Hp → Prop} (tu : TU P t d) (hk : K d h) : SemS P F h (underlying t) K := by
  unfold Go.underlying
  refine .bind' (.program ?_)
  simp only [tu.u]
  exact .pure' hk
theorem SemS.isAgg {t : TypeId} {b : Bool} {K : Bool → Hp → Prop} (ta : TA P t b) (hk : K b h) : SemS P F h (isAgg t) K := by
  obtain ⟨d, hu, rfl⟩ := ta.a
  unfold Go.isAgg
  refine .bind' (.underlying ⟨hu⟩ ?_)
  cases d <;> exact .pure' hk
/-- What needs no world. -/
theorem SemS.still {α : Type} {s : Sem α} {a : α} {K : α → Hp → Prop} (hs : ∀ w es, s.runT P w es = (.ok a w, es)) (hk : K a h) : SemS P F h s K :=
  fun w f => ⟨a, w, h, #[], fun es => by rw [hs]; simp, .refl f, hk⟩

theorem addr_add (b off i : Nat) : (⟨b, off, none⟩ : Addr).add i = ⟨b, off + i, none⟩ := by
  unfold Addr.add
  split
  · subst_vars; rfl
  · rfl

theorem SemS.loadCellsFrom {b off : Nat} {c : Array Value} {t : TypeId} {fr : Nat × Nat} (hb : h b = some (.cells c t fr) ∨ F b = some (.cells c t fr)) :
    ∀ (n i : Nat) (acc : Array Value) {K : Array Value → Hp → Prop}, off + i + n ≤ c.size → K (acc ++ c.extract (off + i) (off + i + n)) h → SemS P F h (loadCellsFrom ⟨b, off, none⟩ i n acc) K
  | 0, i, acc, K, _, hk => by
    unfold Go.loadCellsFrom
    refine .pure' ?_
    have : c.extract (off + i) (off + i + 0) = #[] := by simp; omega
    rw [this] at hk
    simpa using hk
  | n + 1, i, acc, K, hn, hk => by
    unfold Go.loadCellsFrom
    refine .bind' ?_
    rw [addr_add]
    have hlt : off + i < c.size := by omega
    refine SemS.load hb (Array.getElem?_eq_getElem hlt) ?_
    refine loadCellsFrom hb n (i + 1) _ (by omega) ?_
    have : acc ++ c.extract (off + i) (off + i + (n + 1)) = acc.push c[off + i] ++ c.extract (off + (i + 1)) (off + (i + 1) + n) := by
      apply Array.toList_inj.1
      simp only [Array.toList_append, Array.toList_extract, Array.toList_push, List.append_assoc]
      congr 1
      simp only [List.extract_eq_take_drop]
      rw [show off + i + (n + 1) - (off + i) = n + 1 by omega, show off + (i + 1) + n - (off + (i + 1)) = n by omega]
      rw [List.drop_eq_getElem_cons (by simpa using hlt)]
      rw [show off + (i + 1) = off + i + 1 by omega]
      simp
    rw [← this]
    exact hk

theorem SemS.loadCells {b off n : Nat} {c : Array Value} {t : TypeId} {fr : Nat × Nat} {K : Array Value → Hp → Prop} (hb : h b = some (.cells c t fr) ∨ F b = some (.cells c t fr))
    (hn : off + n ≤ c.size) (hk : K (c.extract off (off + n)) h) : SemS P F h (loadCells ⟨b, off, none⟩ n) K := by
  unfold Go.loadCells
  refine SemS.loadCellsFrom hb n 0 #[] (by omega) ?_
  simpa using hk

/-- Cells from a place on are others. -/
def putC : Array Value → Nat → List Value → Array Value
  | c, _, [] => c
  | c, off, v :: vs => putC (c.setIfInBounds off v) (off + 1) vs
theorem size_putC : ∀ (vs : List Value) (c : Array Value) (off : Nat), (putC c off vs).size = c.size
  | [], _, _ => rfl
  | v :: vs, c, off => by unfold putC; rw [size_putC vs]; simp

theorem SemS.storeCells {b off : Nat} {t : TypeId} {fr : Nat × Nat} :
    ∀ (vs : List Value) (i : Nat) (h : Hp) (c : Array Value) {K : Unit → Hp → Prop}, h b = some (.cells c t fr) → off + i + vs.length ≤ c.size → fr = (0, 0) → (∀ v ∈ vs, v.oneCell' = true) →
      (∀ h', (vs = [] → h' = h) → (vs ≠ [] → h' = h.set b (.cells (putC c (off + i) vs) t fr)) → K () h') → SemS P F h (storeCells ⟨b, off, none⟩ vs i) K
  | [], i, h, c, K, _, _, _, _, hk => by
    unfold Go.storeCells
    exact .pure' (hk h (fun _ => rfl) (fun e => absurd rfl e))
  | v :: vs, i, h, c, K, hb, hn, hfr, h1, hk => by
    unfold Go.storeCells
    rw [addr_add]
    simp only [List.length_cons] at hn
    refine .bind' (.store hb (by omega) (by subst hfr; simp) (h1 v (by simp)) ?_)
    refine storeCells vs (i + 1) _ (c.setIfInBounds (off + i) v) (Hp.set_same _ _ _) (by simp; omega) hfr (fun u hu => h1 u (by simp [hu])) fun h' e1 e2 => ?_
    refine hk h' (fun e => by cases e) fun _ => ?_
    by_cases hv : vs = []
    · subst hv
      rw [e1 rfl]
      simp only [putC]
    · rw [e2 hv]
      funext n
      by_cases hn' : n = b
      · subst hn'; simp only [Hp.set_same, putC]; rfl
      · simp only [Hp.set_other _ _ hn']

/-! ### Reading pieces of lists, found by program -/
/-- n of the list from off on. -/
class GetL (cs : List Value) (off n : Nat) (vs : outParam (List Value)) : Prop where
  g : off + n ≤ cs.length ∧ (cs.drop off).take n = vs
instance {cs : List Value} : GetL cs 0 0 [] := ⟨by simp⟩
instance {c : Value} {cs vs : List Value} {n : Nat} [i : GetL cs 0 n vs] : GetL (c :: cs) 0 (n + 1) (c :: vs) := ⟨by have := i.g; simp_all⟩
instance {c : Value} {cs vs : List Value} {off n : Nat} [i : GetL cs off n vs] : GetL (c :: cs) (off + 1) n vs := ⟨by have := i.g; simp_all; omega⟩
/-- The list with others from off on. -/
class PutL (cs : List Value) (off : Nat) (vs : List Value) (cs' : outParam (List Value)) : Prop where
  p : off + vs.length ≤ cs.length ∧ ∀ pre : List Value, putC (pre ++ cs).toArray (pre.length + off) vs = (pre ++ cs').toArray
instance {cs : List Value} : PutL cs 0 [] cs := ⟨by simp [putC]⟩
instance {c v : Value} {cs vs cs' : List Value} [i : PutL cs 0 vs cs'] : PutL (c :: cs) 0 (v :: vs) (v :: cs') := ⟨by
  refine ⟨by have := i.p.1; simp_all, fun pre => ?_⟩
  have h2 := i.p.2 (pre ++ [v])
  simp only [List.append_assoc, List.singleton_append, List.length_append, List.length_singleton, Nat.add_zero] at h2
  unfold putC
  rw [← h2]
  congr 1
  simp⟩
instance (priority := low) {c : Value} {cs vs cs' : List Value} {off : Nat} [i : PutL cs off vs cs'] : PutL (c :: cs) (off + 1) vs (c :: cs') := ⟨by
  refine ⟨by have := i.p.1; simp_all; omega, fun pre => ?_⟩
  have h2 := i.p.2 (pre ++ [c])
  simp only [List.append_assoc, List.singleton_append, List.length_append, List.length_singleton] at h2
  rw [show pre.length + (off + 1) = pre.length + 1 + off by omega]
  exact h2⟩

/-- All are values of one cell. -/
def ones : List Value → Bool
  | [] => true
  | v :: vs => v.oneCell' && ones vs
theorem ones_all : ∀ {vs : List Value}, ones vs = true → ∀ v ∈ vs, v.oneCell' = true
  | [], _, _, h => by cases h
  | u :: us, H, v, hv => by
    simp only [ones, Bool.and_eq_true] at H
    rcases List.mem_cons.1 hv with e | e
    · rw [e]; exact H.1
    · exact ones_all H.2 v e

/-- A value's cells as a list. -/
class CellsL (v : Value) (vs : outParam (List Value)) : Prop where
  c : v.cells = vs.toArray
instance {vs : List Value} : CellsL (.agg vs.toArray) vs := ⟨rfl⟩
instance {k : IntKind} {n : Int} : CellsL (.int k n) [.int k n] := ⟨rfl⟩
instance {b : Bool} : CellsL (.bool b) [.bool b] := ⟨rfl⟩
instance {s : ByteArray} : CellsL (.string s) [.string s] := ⟨rfl⟩
instance {a : Option Addr} : CellsL (.pointer a) [.pointer a] := ⟨rfl⟩
instance {a : Option Addr} {n c : Nat} : CellsL (.slice a n c) [.slice a n c] := ⟨rfl⟩
instance {r : Option Nat} : CellsL (.map r) [.map r] := ⟨rfl⟩
instance {r : Option Nat} : CellsL (.chan r) [.chan r] := ⟨rfl⟩
instance {f : Fn} {a c : Array Value} : CellsL (.func f a c) [.func f a c] := ⟨rfl⟩
instance : CellsL .nilFunc [.nilFunc] := ⟨rfl⟩
instance {t : TypeId} {v : Value} : CellsL (.iface t v) [.iface t v] := ⟨rfl⟩
instance : CellsL .nilIface [.nilIface] := ⟨rfl⟩


/-! ### Operations -/
theorem opv_pure {v : Value} (he : ∀ a, Env N l a → execOp a.eval o = .pure (.value v)) (hk : K v h) : OPV P F N o l h K := ⟨_, he, SemS.pure hk⟩

theorem opv_move {x : Operand} {v : Value} (hop : o.op = .move x) (hx : ev l x = some v) (hk : K v h) : OPV P F N o l h K :=
  opv_pure (fun a e => by simp only [execOp, hop, e.ev hx]; rfl) hk
theorem opv_assign {x : Operand} {v : Value} (hop : o.op = .assign x) (hx : ev l x = some v) (hk : K v h) : OPV P F N o l h K :=
  opv_pure (fun a e => by simp only [execOp, hop, e.ev hx]; rfl) hk
theorem opv_nilCheck {x : Operand} {p : Addr} (hop : o.op = .nilCheck x) (hx : ev l x = some (.pointer (some p))) (hk : K (.pointer (some p)) h) : OPV P F N o l h K :=
  opv_pure (fun a e => by simp only [execOp, hop, e.ev hx]; rfl) hk

theorem opv_sem {s : Sem Value} (he : ∀ a, Env N l a → execOp a.eval o = (do pure (.value (← s)))) (H : SemS P F h s K) : OPV P F N o l h K :=
  ⟨_, he, .bind' (H.mono fun _ _ k => .pure' k)⟩
theorem opv_semU {s : Sem Unit} (he : ∀ a, Env N l a → execOp a.eval o = (do s; pure .skip)) (H : SemS P F h s fun _ h' => K undef h') : OPV P F N o l h K :=
  ⟨_, he, .bind' (H.mono fun _ _ k => .pure' k)⟩

theorem opv_box {T : TypeId} {x : Operand} {v : Value} {vs : List Value} {L : List HProp} (H : Own L h) (hop : o.op = .box T x) (hx : ev l x = some v) [cl : CellsL v vs]
    (hk : ∀ b h', F b = none → Own (pt b (.cells vs.toArray T (0, 0)) :: L) h' → K (.pointer (some ⟨b, 0, none⟩)) h') : OPV P F N o l h K :=
  opv_sem (s := Instr.box T v) (fun a e => by simp only [execOp, hop, e.ev hx]) (.bind' (.bind' (.new fun b hb hF => .pure' (.pure' (hk b _ hF (by rw [cl.c]; exact H.new hb))))))

theorem opv_alloc {T : TypeId} {n b : Nat} {z : Value} {zs : List Value} {L : List HProp} (H : Own L h) (hop : o.op = .alloc T) [ti : TI P T n b z] [cl : CellsL z zs]
    (hk : ∀ b h', F b = none → Own (pt b (.cells zs.toArray T (0, 0)) :: L) h' → K (.pointer (some ⟨b, 0, none⟩)) h') : OPV P F N o l h K := by
  refine opv_sem (s := Instr.alloc T true (.tuple #[])) (fun a e => by simp only [execOp, hop]) ?_
  unfold Instr.alloc
  refine .bind' (.zeroValue ti ?_)
  exact .bind' (.bind' (.new fun b hb hF => .pure' (.pure' (hk b _ hF (by rw [cl.c]; exact H.new hb)))))

theorem getElem?_toArray' {cs : List Value} {off : Nat} {v : Value} (hv : cs[off]? = some v) : cs.toArray[off]? = some v := by simpa using hv

theorem opv_load1 {t : TypeId} {x : Operand} {b off : Nat} {cs : List Value} {T : TypeId} {fr : Nat × Nat} {v : Value} (hb : h b = some (.cells cs.toArray T fr) ∨ F b = some (.cells cs.toArray T fr))
    (hop : o.op = .load t x) (hx : ev l x = some (.pointer (some ⟨b, off, none⟩))) [ta : TA P t false] (hv : cs[off]? = some v) (hk : K v h) : OPV P F N o l h K := by
  refine opv_sem (s := Instr.loadAt t (.pointer (some ⟨b, off, none⟩))) (fun a e => by simp only [execOp, hop, e.ev hx]) ?_
  unfold Instr.loadAt
  refine .bind' (.pure' ?_)
  unfold loadVar
  refine .bind' (.isAgg ta ?_)
  exact .load hb (getElem?_toArray' hv) hk

theorem opv_loadA {t : TypeId} {x : Operand} {b off n by_ : Nat} {cs vs : List Value} {T : TypeId} {fr : Nat × Nat} {z : Value} (hb : h b = some (.cells cs.toArray T fr) ∨ F b = some (.cells cs.toArray T fr))
    (hop : o.op = .load t x) (hx : ev l x = some (.pointer (some ⟨b, off, none⟩))) [ta : TA P t true] [ti : TI P t n by_ z] [g : GetL cs off n vs] (hk : K (.agg vs.toArray) h) : OPV P F N o l h K := by
  refine opv_sem (s := Instr.loadAt t (.pointer (some ⟨b, off, none⟩))) (fun a e => by simp only [execOp, hop, e.ev hx]) ?_
  unfold Instr.loadAt
  refine .bind' (.pure' ?_)
  unfold loadVar
  refine .bind' (.isAgg ta ?_)
  simp only [if_true]
  refine .bind' (.sizeOf ti (.bind' (.loadCells hb (by simpa using g.g.1) (.pure' ?_))))
  have e : cs.toArray.extract off (off + n) = vs.toArray := by
    apply Array.toList_inj.1
    simp only [Array.toList_extract, List.extract_eq_take_drop]
    rw [show off + n - off = n by omega]
    exact g.g.2
  rw [e]; exact hk

theorem opv_store {t : TypeId} {x y : Operand} {b off n by_ : Nat} {cs vs cs' : List Value} {T : TypeId} {v z : Value} {L L' : List HProp} (H : Own L h)
    (hop : o.op = .store t x y) (hx : ev l x = some (.pointer (some ⟨b, off, none⟩))) (hy : ev l y = some v) [ti : TI P t n by_ z] (hc : v.cells = vs.toArray) (hn : vs.length = n) (hn0 : Nat.blt 0 n = true) (h1 : ones vs = true)
    [p : PutL cs off vs cs'] [u : Upd L b (.cells cs.toArray T (0, 0)) (.cells cs'.toArray T (0, 0)) L'] (hk : ∀ h', Own L' h' → K undef h') : OPV P F N o l h K := by
  refine opv_semU (s := Instr.storeAt t (.pointer (some ⟨b, off, none⟩)) v) (fun a e => by simp only [execOp, hop, e.ev hx, e.ev hy]) ?_
  unfold Instr.storeAt
  refine .bind' (.pure' ?_)
  unfold storeVar
  refine .bind' (.sizeOf ti ?_)
  have e : v.cells.size = n := by rw [hc]; simpa using hn
  simp only [e, ne_eq, not_true, if_false]
  obtain ⟨hb, ho'⟩ := u.upd H
  have hpp := p.p.2 []
  simp only [List.nil_append, List.length_nil, Nat.zero_add] at hpp
  rw [hc]
  refine SemS.storeCells vs 0 h cs.toArray hb (by simpa using p.p.1) rfl (ones_all h1) fun h' e1 e2 => ?_
  by_cases hv : vs = []
  · subst hv; subst hn; simp [Nat.blt_eq] at hn0
  · rw [e2 hv, Nat.add_zero, hpp]
    exact hk _ ho'

theorem putC_one (cs : List Value) (off : Nat) (v : Value) : putC cs.toArray off [v] = (cs.set off v).toArray := by
  unfold putC putC
  apply Array.toList_inj.1
  simp
/-- A store of one cell into a row whose cells are not written out. -/
theorem opv_storeI {t : TypeId} {x y : Operand} {b off n by_ : Nat} {cs : List Value} {T : TypeId} {v z : Value} {L L' : List HProp} (H : Own L h)
    (hop : o.op = .store t x y) (hx : ev l x = some (.pointer (some ⟨b, off, none⟩))) (hy : ev l y = some v) [ti : TI P t n by_ z] (hc : v.cells = #[v]) (hn : n = 1) (h1 : v.oneCell' = true) (hoff : off < cs.length)
    [u : Upd L b (.cells cs.toArray T (0, 0)) (.cells (cs.set off v).toArray T (0, 0)) L'] (hk : ∀ h', Own L' h' → K undef h') : OPV P F N o l h K := by
  refine opv_semU (s := Instr.storeAt t (.pointer (some ⟨b, off, none⟩)) v) (fun a e => by simp only [execOp, hop, e.ev hx, e.ev hy]) ?_
  unfold Instr.storeAt
  refine .bind' (.pure' ?_)
  unfold storeVar
  refine .bind' (.sizeOf ti ?_)
  subst hn
  rw [hc]
  simp only [List.size_toArray, List.length_cons, List.length_nil, ne_eq, not_true, if_false]
  obtain ⟨hb, ho'⟩ := u.upd H
  refine SemS.storeCells [v] 0 h cs.toArray hb (by simp; omega) rfl (fun u hu => by simp at hu; subst hu; exact h1) fun h' e1 e2 => ?_
  rw [e2 (by simp), Nat.add_zero, putC_one cs off v]
  exact hk _ ho'
end Go.BL
