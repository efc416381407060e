/- What single operations do: numbers, comparisons, fields, indexes, function values, calls. -/
import Derived.Test.YtnfcoikbkmhggaaGreatOps
set_option linter.all false
set_option linter.unusedVariables false
set_option linter.unusedSimpArgs false
namespace Go.BL
variable {P : Program} {F h : Hp} {N : Nat} {l : TL} {K : Value → Hp → Prop} {o : Oper}

theorem eqGuard_int (op : BinOp) (t : TypeId) (x y : Operand) (k k' : IntKind) (a b : Int) : eqGuard op t x y (.int k a) (.int k' b) = pure () := by cases op <;> rfl

def rawI : BinOp → Int → Int → Option Int
  | .add, a, b => some (a + b)
  | .sub, a, b => some (a - b)
  | .mul, a, b => some (a * b)
  | .quo, a, b => if b = 0 then none else some (a.tdiv b)
  | _, _, _ => none
theorem opv_arith {op : BinOp} {t t' : TypeId} {x y : Operand} {k : IntKind} {a b r r' : Int} (hop : o.op = .binOp op t x y t') (hx : ev l x = some (.int k a)) (hy : ev l y = some (.int k b))
    (hr : rawI op a b = some r) (hw : k.wrap r = r') (hk : K (.int k r') h) : OPV P F N o l h K := by
  refine opv_sem (s := (do eqGuard op t x y (.int k a) (.int k b); binOp op t (.int k a) (.int k b))) (fun a e => by simp only [execOp, hop, e.ev hx, e.ev hy]) ?_
  rw [eqGuard_int]
  refine .bind' (.pure' ?_)
  subst hw
  cases op <;> simp only [rawI] at hr <;> first | (cases hr; done) | skip
  · cases hr; simp only [binOp, ne_eq, not_true, if_false, Op.intArith]; exact .pure' hk
  · cases hr; simp only [binOp, ne_eq, not_true, if_false, Op.intArith]; exact .pure' hk
  · cases hr; simp only [binOp, ne_eq, not_true, if_false, Op.intArith]; exact .pure' hk
  · by_cases hb : b = 0
    · rw [if_pos hb] at hr; cases hr
    · rw [if_neg hb] at hr; cases hr
      simp only [binOp, ne_eq, not_true, if_false, Op.intDiv, hb]; exact .pure' hk

theorem opv_rem {t t' : TypeId} {x y : Operand} {k : IntKind} {a b : Int} (hop : o.op = .binOp .rem t x y t') (hx : ev l x = some (.int k a)) (hy : ev l y = some (.int k b))
    (hb : b ≠ 0) (hk : K (.int k (a.tmod b)) h) : OPV P F N o l h K := by
  refine opv_sem (s := (do eqGuard .rem t x y (.int k a) (.int k b); binOp .rem t (.int k a) (.int k b))) (fun a e => by simp only [execOp, hop, e.ev hx, e.ev hy]) ?_
  rw [eqGuard_int]
  refine .bind' (.pure' ?_)
  simp only [binOp, ne_eq, not_true, if_false, Op.intDiv, hb]
  exact .pure' hk

def cmpI : BinOp → Int → Int → Option Bool
  | .eql, a, b => some (a == b)
  | .neq, a, b => some (a != b)
  | .lss, a, b => some (decide (a < b))
  | .leq, a, b => some (decide (a ≤ b))
  | .gtr, a, b => some (decide (a > b))
  | .geq, a, b => some (decide (a ≥ b))
  | _, _, _ => none
theorem opv_cmp {op : BinOp} {t t' : TypeId} {x y : Operand} {k : IntKind} {a b : Int} {r : Bool} (hop : o.op = .binOp op t x y t') (hx : ev l x = some (.int k a)) (hy : ev l y = some (.int k b))
    (hr : cmpI op a b = some r) (hk : K (.bool r) h) : OPV P F N o l h K := by
  refine opv_sem (s := (do eqGuard op t x y (.int k a) (.int k b); binOp op t (.int k a) (.int k b))) (fun a e => by simp only [execOp, hop, e.ev hx, e.ev hy]) ?_
  rw [eqGuard_int]
  refine .bind' (.pure' ?_)
  cases op <;> simp only [cmpI] at hr <;> first | (cases hr; done) | skip
  all_goals
    cases hr
    simp only [binOp, ne_eq, not_true, if_false, Op.intCmp]
    exact .pure' hk

def bitsI (op : BinOp) (k : IntKind) (a b : Int) : Option Int :=
  match op with
  | .and => some (k.wrap (BitVec.ofInt k.bits a &&& BitVec.ofInt k.bits b).toNat)
  | .or => some (k.wrap (BitVec.ofInt k.bits a ||| BitVec.ofInt k.bits b).toNat)
  | .xor => some (k.wrap (BitVec.ofInt k.bits a ^^^ BitVec.ofInt k.bits b).toNat)
  | .andNot => some (k.wrap (BitVec.ofInt k.bits a &&& ~~~ (BitVec.ofInt k.bits b)).toNat)
  | _ => none
theorem opv_bits {op : BinOp} {t t' : TypeId} {x y : Operand} {k : IntKind} {a b r r' : Int} (hop : o.op = .binOp op t x y t') (hx : ev l x = some (.int k a)) (hy : ev l y = some (.int k b))
    (hr : bitsI op k a b = some r) (hw : r = r') (hk : K (.int k r') h) : OPV P F N o l h K := by
  refine opv_sem (s := (do eqGuard op t x y (.int k a) (.int k b); binOp op t (.int k a) (.int k b))) (fun a e => by simp only [execOp, hop, e.ev hx, e.ev hy]) ?_
  rw [eqGuard_int]
  refine .bind' (.pure' ?_)
  subst hw
  cases op <;> simp only [bitsI] at hr <;> first | (cases hr; done) | skip
  all_goals
    cases hr
    simp only [binOp, ne_eq, not_true, if_false, Op.intBits]
    exact .pure' hk

def shiftI (op : BinOp) (k : IntKind) (a b : Int) : Option Int :=
  if b < 0 then none else
  match op with
  | .shl => some (k.wrap (a * 2 ^ min b.toNat k.bits))
  | .shr => some (a.fdiv (2 ^ min b.toNat k.bits))
  | _ => none
theorem opv_shift {op : BinOp} {t t' : TypeId} {x y : Operand} {k k' : IntKind} {a b r r' : Int} (hop : o.op = .binOp op t x y t') (hx : ev l x = some (.int k a)) (hy : ev l y = some (.int k' b))
    (hr : shiftI op k a b = some r) (hw : r = r') (hk : K (.int k r') h) : OPV P F N o l h K := by
  refine opv_sem (s := (do eqGuard op t x y (.int k a) (.int k' b); binOp op t (.int k a) (.int k' b))) (fun a e => by simp only [execOp, hop, e.ev hx, e.ev hy]) ?_
  rw [eqGuard_int]
  refine .bind' (.pure' ?_)
  subst hw
  unfold shiftI at hr
  by_cases hb : b < 0
  · rw [if_pos hb] at hr; cases hr
  · rw [if_neg hb] at hr
    cases op <;> first | (cases hr; done) | skip
    all_goals
      cases hr
      simp only [binOp, Op.shift, if_neg hb]
      exact .pure' hk

theorem opv_not {t : TypeId} {x : Operand} {b : Bool} (hop : o.op = .unOp .not t x) (hx : ev l x = some (.bool b)) (hk : K (.bool !b) h) : OPV P F N o l h K :=
  opv_sem (s := Op.unary .not (.bool b)) (fun a e => by simp only [execOp, hop, e.ev hx]) (.pure' hk)
theorem opv_neg {t : TypeId} {x : Operand} {k : IntKind} {n r : Int} (hop : o.op = .unOp .neg t x) (hx : ev l x = some (.int k n)) (hw : k.wrap (0 - n) = r) (hk : K (.int k r) h) : OPV P F N o l h K :=
  opv_sem (s := Op.unary .neg (.int k n)) (fun a e => by simp only [execOp, hop, e.ev hx]) (by subst hw; exact .pure' hk)

theorem opv_convert {s t : TypeId} {bs : Bool} {x : Operand} {k k' : IntKind} {n r : Int} (hop : o.op = .convert s t x) [us : TA P s bs] [ut : TU P t (.int k)] (hx : ev l x = some (.int k' n)) (hw : k.wrap n = r)
    (hk : K (.int k r) h) : OPV P F N o l h K := by
  refine opv_sem (s := Go.convert s t (.int k' n)) (fun a e => by simp only [execOp, hop, e.ev hx]) ?_
  obtain ⟨ds, hus, _⟩ := us.a
  unfold Go.convert
  refine .bind' (.underlying ⟨hus⟩ (.bind' (.underlying ut ?_)))
  subst hw
  cases ds <;> exact .pure' hk

theorem opv_makeInterface {t : TypeId} {x : Operand} {v : Value} (hop : o.op = .makeInterface t x) [u : TN P t] (hx : ev l x = some v) (hk : K (.iface t v) h) : OPV P F N o l h K := by
  refine opv_sem (s := Instr.makeInterface t v) (fun a e => by simp only [execOp, hop, e.ev hx]) ?_
  obtain ⟨d, hu, hd⟩ := u.n
  unfold Instr.makeInterface
  refine .bind' (.underlying ⟨hu⟩ ?_)
  cases d <;> first | (cases hd; done) | exact .pure' hk

/-- The values of a row of operands. -/
def evs (l : TL) : List Operand → Option (List Value)
  | [] => some []
  | x :: xs => match ev l x with
    | some v => match evs l xs with
      | some vs => some (v :: vs)
      | none => none
    | none => none
theorem Env.evs {a : Act} (e : Env N l a) : ∀ {xs : List Operand} {vs : List Value}, evs l xs = some vs → xs.map a.eval = vs
  | [], vs, H => by cases H; rfl
  | x :: xs, vs, H => by
    unfold BL.evs at H
    cases hx : BL.ev l x with
    | none => simp [hx] at H
    | some v =>
      cases hxs : BL.evs l xs with
      | none => simp [hx, hxs] at H
      | some us =>
        simp only [hx, hxs, Option.some.injEq] at H
        subst H
        simp [e.ev hx, Env.evs e hxs]
theorem Env.evsA {a : Act} (e : Env N l a) {xs : Array Operand} {vs : List Value} (H : BL.evs l xs.toList = some vs) : xs.map a.eval = vs.toArray := by
  apply Array.toList_inj.1
  simp [e.evs H]

theorem opv_makeFunc {fn : Fn} {fs cs : Array Operand} {vs us : List Value} (hop : o.op = .makeFunc fn fs cs) (hf : evs l fs.toList = some vs) (hc : evs l cs.toList = some us) (hk : K (.func fn vs.toArray us.toArray) h) : OPV P F N o l h K :=
  opv_sem (s := Instr.makeFunc fn vs.toArray us.toArray) (fun a e => by simp only [execOp, hop, e.evsA hf, e.evsA hc]) (.pure' hk)

/-- The address of a field. -/
theorem opv_fieldAddr {s : TypeId} {x : Operand} {f b off fo ft n by_ : Nat} {z : Value} (hop : o.op = .fieldAddr s x f) (hx : ev l x = some (.pointer (some ⟨b, off, none⟩))) [tf : TF P s f fo ft] [ti : TI P ft n by_ z]
    (hn : Nat.blt 0 n = true) (hk : K (.pointer (some ⟨b, off + fo, none⟩)) h) : OPV P F N o l h K := by
  refine opv_sem (s := Instr.fieldAt s (.pointer (some ⟨b, off, none⟩)) f) (fun a e => by simp only [execOp, hop, e.ev hx]) ?_
  obtain ⟨fs, y, hu, hy, rfl, rfl⟩ := tf.f
  unfold Instr.fieldAt
  refine .bind' (.underlying ⟨hu⟩ ?_)
  simp only [hy]
  refine .bind' (.pure' ?_)
  unfold fieldPlace
  refine .bind' (.bind' (.sizeOf ti ?_))
  have : 0 < n := by simpa [Nat.blt_eq] using hn
  rw [if_neg (by omega)]
  rw [addr_add]
  exact .pure' (.pure' hk)
theorem opv_fieldAddr0 {s : TypeId} {x : Operand} {f b fo ft n by_ : Nat} {z : Value} (hop : o.op = .fieldAddr s x f) (hx : ev l x = some (.pointer (some ⟨b, 0, none⟩))) [tf : TF P s f fo ft] [ti : TI P ft n by_ z]
    (hn : Nat.blt 0 n = true) (hk : K (.pointer (some ⟨b, fo, none⟩)) h) : OPV P F N o l h K :=
  opv_fieldAddr hop hx hn (by rw [Nat.zero_add]; exact hk)

theorem SemS.part1 {t : TypeId} {cs : Array Value} {off : Nat} {v : Value} (u : TA P t false) (hv : cs[off]? = some v) (hk : K v h) : SemS P F h (part t cs off) K := by
  unfold Go.part
  refine .bind' (.isAgg u ?_)
  simp only [hv]
  exact .pure' hk
theorem SemS.partA {t : TypeId} {cs vs : List Value} {off n by_ : Nat} {z : Value} (u : TA P t true) (ti : TI P t n by_ z) (g : GetL cs off n vs) (hk : K (.agg vs.toArray) h) : SemS P F h (part t cs.toArray off) K := by
  unfold Go.part
  refine .bind' (.isAgg u ?_)
  refine .bind' (.sizeOf ti ?_)
  have e : cs.toArray.extract off (off + n) = vs.toArray := by
    apply Array.toList_inj.1
    simp only [Array.toList_extract, List.extract_eq_take_drop]
    rw [show off + n - off = n by omega]
    exact g.g.2
  rw [e]
  exact .pure' hk

theorem opv_field1 {s : TypeId} {x : Operand} {f fo ft : Nat} {cs : List Value} {v : Value} (hop : o.op = .field s x f) (hx : ev l x = some (.agg cs.toArray)) [tf : TF P s f fo ft] [u : TA P ft false]
    (hv : cs[fo]? = some v) (hk : K v h) : OPV P F N o l h K := by
  refine opv_sem (s := Instr.field s (.agg cs.toArray) f) (fun a e => by simp only [execOp, hop, e.ev hx]) ?_
  obtain ⟨fs, y, hu, hy, rfl, rfl⟩ := tf.f
  unfold Instr.field
  refine .bind' (.underlying ⟨hu⟩ ?_)
  simp only [hy]
  exact .bind' (.pure' (.part1 u (getElem?_toArray' hv) hk))
theorem opv_fieldA {s : TypeId} {x : Operand} {f fo ft n by_ : Nat} {cs vs : List Value} {z : Value} (hop : o.op = .field s x f) (hx : ev l x = some (.agg cs.toArray)) [tf : TF P s f fo ft] [u : TA P ft true]
    [ti : TI P ft n by_ z] [g : GetL cs fo n vs] (hk : K (.agg vs.toArray) h) : OPV P F N o l h K := by
  refine opv_sem (s := Instr.field s (.agg cs.toArray) f) (fun a e => by simp only [execOp, hop, e.ev hx]) ?_
  obtain ⟨fs, y, hu, hy, rfl, rfl⟩ := tf.f
  unfold Instr.field
  refine .bind' (.underlying ⟨hu⟩ ?_)
  simp only [hy]
  exact .bind' (.pure' (.partA u ti g hk))

/-- The address of a slice's element. -/
theorem opv_indexAddr {t e n by_ : Nat} {x y : Operand} {k : IntKind} {i : Int} {b off len cap : Nat} {z : Value} (hop : o.op = .indexAddr t x y) [u : TU P t (.slice e)] [ti : TI P e n by_ z] (hx : ev l x = some (.slice (some ⟨b, off, none⟩) len cap))
    (hy : ev l y = some (.int k i)) (hi : 0 ≤ i ∧ i < len) (hk : K (.pointer (some ⟨b, off + i.toNat * n, none⟩)) h) : OPV P F N o l h K := by
  refine opv_sem (s := Instr.indexAt t (.slice (some ⟨b, off, none⟩) len cap) (.int k i)) (fun a e => by simp only [execOp, hop, e.ev hx, e.ev hy]) ?_
  unfold Instr.indexAt
  refine .bind' (.pure' ?_)
  refine .bind' (.underlying u (.bind' (.pure' ?_)))
  refine .bind' (.underlying u ?_)
  simp only [hi, and_self, if_true]
  refine .bind' (.sizeOf ti ?_)
  rw [addr_add]
  exact .pure' hk
/-- The address of an array's element, the array's address being at hand. -/
theorem opv_indexAddrA {t e n by_ len : Nat} {x y : Operand} {k : IntKind} {i : Int} {b off : Nat} {z : Value} (hop : o.op = .indexAddr t x y) [u : TU P t (.array len e)] [ti : TI P e n by_ z] (hx : ev l x = some (.pointer (some ⟨b, off, none⟩)))
    (hy : ev l y = some (.int k i)) (hi : 0 ≤ i ∧ i < len) (hk : K (.pointer (some ⟨b, off + i.toNat * n, none⟩)) h) : OPV P F N o l h K := by
  refine opv_sem (s := Instr.indexAt t (.pointer (some ⟨b, off, none⟩)) (.int k i)) (fun a e => by simp only [execOp, hop, e.ev hx, e.ev hy]) ?_
  unfold Instr.indexAt
  refine .bind' (.pure' ?_)
  refine .bind' (.underlying u (.bind' (.bind' (.pure' (.pure' ?_)))))
  refine .bind' (.pure' ?_)
  refine .bind' (.underlying u ?_)
  simp only [hi, and_self, if_true]
  refine .bind' (.sizeOf ti ?_)
  rw [addr_add]
  exact .pure' hk
/-- An element of an array's value. -/
theorem opv_index1 {t e n by_ len : Nat} {x y : Operand} {k : IntKind} {i : Int} {cs : List Value} {v z : Value} (hop : o.op = .index t x y) [u : TU P t (.array len e)] [ue : TA P e false] [ti : TI P e n by_ z]
    (hx : ev l x = some (.agg cs.toArray)) (hy : ev l y = some (.int k i)) (hi : 0 ≤ i ∧ i < len) (hv : cs[i.toNat * n]? = some v) (hk : K v h) : OPV P F N o l h K := by
  refine opv_sem (s := Instr.index t (.agg cs.toArray) (.int k i)) (fun a e => by simp only [execOp, hop, e.ev hx, e.ev hy]) ?_
  unfold Instr.index
  refine .bind' (.pure' ?_)
  refine .bind' (.underlying u ?_)
  simp only [hi, and_self, if_true]
  exact .bind' (.sizeOf ti (.part1 ue (getElem?_toArray' hv) hk))

theorem opv_extract {x : Operand} {i : Nat} {vs : List Value} {v : Value} (hop : o.op = .extract x i) (hx : ev l x = some (.tuple vs.toArray)) (hv : vs[i]? = some v) (hk : K v h) : OPV P F N o l h K :=
  opv_sem (s := Instr.extract (.tuple vs.toArray) i) (fun a e => by simp only [execOp, hop, e.ev hx]) (by simp only [Instr.extract, getElem?_toArray' hv]; exact .pure' hk)

/-! ### Making structs and slices -/
def evP (l : TL) : List (Nat × Operand) → Option (List (Nat × Value))
  | [] => some []
  | (i, x) :: xs => match ev l x with
    | some v => match evP l xs with
      | some vs => some ((i, v) :: vs)
      | none => none
    | none => none
theorem Env.evP {a : Act} (e : Env N l a) : ∀ {xs : List (Nat × Operand)} {vs : List (Nat × Value)}, evP l xs = some vs → xs.map (fun (i, x) => (i, a.eval x)) = vs
  | [], vs, H => by cases H; rfl
  | (i, x) :: xs, vs, H => by
    unfold BL.evP at H
    cases hx : BL.ev l x with
    | none => simp [hx] at H
    | some v =>
      cases hxs : BL.evP l xs with
      | none => simp [hx, hxs] at H
      | some us =>
        simp only [hx, hxs, Option.some.injEq] at H
        subst H
        have := Env.evP e hxs
        simp only [List.map_cons, e.ev hx, this]
theorem Env.evPA {a : Act} (e : Env N l a) {xs : Array (Nat × Operand)} {vs : List (Nat × Value)} (H : BL.evP l xs.toList = some vs) : xs.map (fun (i, x) => (i, a.eval x)) = vs.toArray := by
  apply Array.toList_inj.1
  simp only [Array.toList_map, e.evP H]

/-- The cells of a struct that is made of parts: found by program. -/
class FillL (places : List (Nat × Nat)) (cs : List Value) (parts : List (Nat × Value)) (cs' : outParam (List Value)) : Prop where
  f : Instr.fill (fun i => places[i]?) cs.toArray parts = some cs'.toArray
instance {places : List (Nat × Nat)} {cs : List Value} : FillL places cs [] cs := ⟨rfl⟩
class AtL {α : Type} (xs : List α) (i : Nat) (x : outParam α) : Prop where
  a : xs[i]? = some x
instance {α : Type} {x : α} {xs : List α} : AtL (x :: xs) 0 x := ⟨rfl⟩
instance {α : Type} {x y : α} {xs : List α} {i : Nat} [a : AtL xs i x] : AtL (y :: xs) (i + 1) x := ⟨by simpa using a.a⟩
class LenL (vs : List Value) (n : Nat) : Prop where
  n : vs.length = n
instance : LenL [] 0 := ⟨rfl⟩
instance {v : Value} {vs : List Value} {n : Nat} [i : LenL vs n] : LenL (v :: vs) (n + 1) := ⟨by simp [i.n]⟩
theorem zip_set (cs : Array Value) (off : Nat) : ∀ (vs : List Value) (j : Nat), (vs.zipIdx j).foldl (fun c (x : Value × Nat) => c.setIfInBounds (off + x.2) x.1) cs = putC cs (off + j) vs
  | [], _ => rfl
  | v :: vs, j => by
    simp only [List.zipIdx_cons, List.foldl_cons]
    rw [zip_set _ off vs (j + 1)]
    rfl

theorem Instr.fill_cons {place : Nat → Option (Nat × Nat)} {cs cs1 vs : List Value} {i off n : Nat} {v : Value} {rest : List (Nat × Value)} (hp : place i = some (off, n)) (hc : v.cells = vs.toArray) (hn : vs.length = n) (p : PutL cs off vs cs1) :
    Instr.fill place cs.toArray ((i, v) :: rest) = Instr.fill place cs1.toArray rest := by
  have hpp := p.p.2 []
  simp only [List.nil_append, List.length_nil, Nat.zero_add] at hpp
  have hle := p.p.1
  conv => lhs; unfold Instr.fill
  simp only [hp, hc]
  rw [if_neg (by simp [hn]; omega)]
  congr 1
  rw [← hpp, ← Nat.add_zero off, ← zip_set, ← Array.foldl_toList]
  simp
instance {places : List (Nat × Nat)} {cs cs1 cs' vs : List Value} {i off n : Nat} {v : Value} {parts : List (Nat × Value)} [a : AtL places i (off, n)] [c : CellsL v vs] [g : LenL vs n] [p : PutL cs off vs cs1] [f : FillL places cs1 parts cs'] :
    FillL places cs ((i, v) :: parts) cs' := ⟨by rw [Instr.fill_cons a.a c.c g.n p]; exact f.f⟩
end Go.BL
