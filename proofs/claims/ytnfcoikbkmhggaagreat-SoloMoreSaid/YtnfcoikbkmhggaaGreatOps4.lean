/- Guards; picks; nil; slices that are made; maps; appending what can be read. -/
import Derived.Test.YtnfcoikbkmhggaaGreatRange
set_option linter.all false
set_option linter.unusedVariables false
set_option linter.unusedSimpArgs false
namespace Go.BL
variable {P : Program} {F h : Hp} {N : Nat} {l : TL} {K : Value → Hp → Prop} {o : Oper} {C : Ctx} {k : List Item} {ds : List Deferred} {ops : Array Oper}

theorem wi {n : Int} (h : -9223372036854775808 ≤ n ∧ n ≤ 9223372036854775807) : IntKind.i64.wrap n = n := by
  simp [IntKind.wrap, IntKind.bits, IntKind.signed]; omega
/-- An operation whose guard, if it has one, lets it. -/
theorem ur_opw {i d : Nat} {is : List Nat} (ho : ops[i]? = some o) (hw : wantL ops l o = some true) (hd : o.dst = some d) (hN : Nat.blt d N = true) (hn : noDefer o.op = true)
    (H : OPV P F N o l h fun v h' => UR P F N C (.inRegion ops is :: k) ((d, v) :: l) ds h') : UR P F N C (.inRegion ops (i :: is) :: k) l ds h := by
  intro a e hds
  refine run_op ho (wantL_spec e hw) (noDefer.ne hn) e H fun v h' hK => ?_
  rw [hd]
  exact hK _ (e.put (by simpa [Nat.blt_eq] using hN) v) hds
theorem ur_opw0 {i : Nat} {is : List Nat} (ho : ops[i]? = some o) (hw : wantL ops l o = some true) (hd : o.dst = none) (hn : noDefer o.op = true)
    (H : OPV P F N o l h fun _ h' => UR P F N C (.inRegion ops is :: k) l ds h') : UR P F N C (.inRegion ops (i :: is) :: k) l ds h := by
  intro a e hds
  refine run_op ho (wantL_spec e hw) (noDefer.ne hn) e H fun v h' hK => ?_
  rw [hd]
  exact hK _ e hds
/-- One that its guard keeps back. -/
theorem ur_pass {i d : Nat} {is : List Nat} (ho : ops[i]? = some o) (hw : wantL ops l o = some false) (hd : o.dst = some d) (hN : Nat.blt d N = true)
    (H : UR P F N C (.inRegion ops is :: k) ((d, undef) :: l) ds h) : UR P F N C (.inRegion ops (i :: is) :: k) l ds h := by
  intro a e hds
  refine run_pass ho (wantL_spec e hw) ?_
  rw [hd]
  exact H _ (e.put (by simpa [Nat.blt_eq] using hN) undef) hds
theorem ur_pass0 {i : Nat} {is : List Nat} (ho : ops[i]? = some o) (hw : wantL ops l o = some false) (hd : o.dst = none)
    (H : UR P F N C (.inRegion ops is :: k) l ds h) : UR P F N C (.inRegion ops (i :: is) :: k) l ds h := by
  intro a e hds
  refine run_pass ho (wantL_spec e hw) ?_
  rw [hd]
  exact H _ e hds
/-- A truth in a slot, by cases. -/
theorem ur_split (t : Nat) {b : Bool} (hl : lk l t = some (.bool b)) (H1 : b = true → UR P F N C k ((t, .bool true) :: l) ds h) (H2 : b = false → UR P F N C k ((t, .bool false) :: l) ds h) : UR P F N C k l ds h := by
  have key : ∀ s v, lk ((t, .bool b) :: l) s = some v → lk l s = some v := by
    intro s v e
    unfold lk at e
    by_cases x : Nat.beq s t = true
    · rw [if_pos x] at e
      have := Nat.eq_of_beq_eq_true x
      subst this; rw [hl]; exact e
    · rw [if_neg x] at e; exact e
  have hs : UR P F N C k ((t, .bool b) :: l) ds h := by
    cases b with
    | true => exact H1 rfl
    | false => exact H2 rfl
  exact fun a e d => hs a (e.sub key) d

theorem ur_condT {c : Operand} {x y : Code} (hc : ev l c = some (.bool true)) (H : UR P F N C (.code x :: k) l ds h) : UR P F N C (.code (.cond c x y) :: k) l ds h :=
  ur_cond hc (fun _ => H) (fun e => by cases e)
theorem ur_condF {c : Operand} {x y : Code} (hc : ev l c = some (.bool false)) (H : UR P F N C (.code y :: k) l ds h) : UR P F N C (.code (.cond c x y) :: k) l ds h :=
  ur_cond hc (fun e => by cases e) (fun _ => H)
theorem opv_pick {c x y : Operand} {b : Bool} {v : Value} (hop : o.op = .pick c x y) (hc : ev l c = some (.bool b)) (hv : ev l (match b with | true => x | false => y) = some v) (hk : K v h) : OPV P F N o l h K := by
  refine ⟨pure (.value v), fun a e => ?_, .pure' hk⟩
  simp only [execOp, hop, e.ev hc]
  cases b <;> (have := e.ev hv; simp only at this; simp [asBool, this])

theorem opv_indexAt {t e n by_ r : Nat} {x y : Operand} {k : IntKind} {i : Int} {b off len cap : Nat} {z : Value} (hop : o.op = .indexAddr t x y) [u : TU P t (.slice e)] [ti : TI P e n by_ z] (hx : ev l x = some (.slice (some ⟨b, off, none⟩) len cap)) (hy : ev l y = some (.int k i))
    (hi : 0 ≤ i ∧ i < len) (hr : off + i.toNat * n = r) (hk : K (.pointer (some ⟨b, r, none⟩)) h) : OPV P F N o l h K := by
  subst hr
  exact opv_indexAddr hop hx hy hi hk

/-- Some parts kept, the others let go. -/
theorem Own.keep {L LA D : List HProp} {h : Hp} (is : List Nat) (H : Own L h) [t : TakeLs is L LA D] : Own LA h := by
  obtain ⟨h1, h2, d, le, o1, _⟩ := (H.perm t.p).append
  exact o1.mono (Hp.le_trans (Hp.le_un_l _ _) le)

theorem ones_append (xs ys : List Value) : ones (xs ++ ys) = (ones xs && ones ys) := by
  induction xs with
  | nil => simp [ones]
  | cons x xs ih => simp only [List.cons_append, ones, ih, Bool.and_assoc]
theorem Own.ex1 {α : Sort _} {LA : α → List HProp} {L : List HProp} {h : Hp} (H : Own ((fun h => ∃ x, Own (LA x) h) :: L) h) : ∃ x, Own (LA x ++ L) h := by
  obtain ⟨h1, h2, d, l, ⟨x, o1⟩, o2⟩ := H
  exact ⟨x, Own.join d l o1 o2⟩
theorem Own.ex2 {α β : Sort _} {LA : α → β → List HProp} {L : List HProp} {h : Hp} (H : Own ((fun h => ∃ x y, Own (LA x y) h) :: L) h) : ∃ x y, Own (LA x y ++ L) h := by
  obtain ⟨h1, h2, d, l, ⟨x, y, o1⟩, o2⟩ := H
  exact ⟨x, y, Own.join d l o1 o2⟩
theorem Own.ex0 {LA : List HProp} {L : List HProp} {h : Hp} (H : Own ((fun h => Own LA h) :: L) h) : Own (LA ++ L) h := by
  obtain ⟨h1, h2, d, l, o1, o2⟩ := H
  exact Own.join d l o1 o2
theorem Own.no {L : List HProp} {h : Hp} (H : Own ((fun _ => False) :: L) h) : False := by
  obtain ⟨_, _, _, _, o, _⟩ := H
  exact o
theorem Env.putb {N d : Nat} {l : TL} {tmps : Array Value} (H : Env N l { tmps := tmps, defers := [] }) (hd : Nat.blt d N = true) (v : Value) : Env N ((d, v) :: l) { tmps := tmps.setIfInBounds d v, defers := [] } :=
  Env.put H (by simpa [Nat.blt_eq] using hd) v

theorem Own.drop {L LA D : List HProp} {h : Hp} (is : List Nat) (H : Own L h) [t : TakeLs is L LA D] : Own D h := by
  obtain ⟨h1, h2, d, le, _, o2⟩ := (H.perm t.p).append
  exact o2.mono (Hp.le_trans (Hp.le_un_r d) le)
theorem LoopEnd.ready {lb db : Nat} {pd : Option Code} {f : FuncId} {tmps : Array Value} {ps : Array Tmp} {asg bd : Code} {L : List HProp} {h : Hp} (H : Own (pt lb (loopO .ready pd f tmps ps asg bd db) :: L) h) : LoopEnd lb pd L h :=
  ⟨_, _, _, _, _, _, _, by decide, H⟩
theorem LoopEnd.done {lb db : Nat} {pd : Option Code} {f : FuncId} {tmps : Array Value} {ps : Array Tmp} {asg bd : Code} {L : List HProp} {h : Hp} (H : Own (pt lb (loopO .done pd f tmps ps asg bd db) :: L) h) : LoopEnd lb pd L h :=
  ⟨_, _, _, _, _, _, _, by decide, H⟩

theorem SemS.loadVar1 {T : TypeId} {b : Nat} {v : Value} {t : TypeId} {fr : Nat × Nat} {K : Value → Hp → Prop} (hb : h b = some (.cells [v].toArray t fr) ∨ F b = some (.cells [v].toArray t fr)) (tu : TA P T false) (hk : K v h) : SemS P F h (loadVar T ⟨b, 0, none⟩) K := by
  unfold loadVar
  refine .bind' (.isAgg tu ?_)
  simp only [Bool.false_eq_true, if_false]
  exact SemS.load hb rfl hk
theorem ur_retDc {f : FuncId} {fn : Func} {R : Value → Hp → Prop} {t T b db : Nat} {v : Value} {ty : TypeId} {L L' : List HProp} (G : Rets P F C f R) (H : Own L h) (hf : P.funcs[f]? = some fn) (hr : fn.results = #[.cell t T])
    (hv : lk l t = some (.pointer (some ⟨b, 0, none⟩))) [u : Upd L db (.deferred (some [])) (.deferred none) L'] [i : Has L' b (.cells [v].toArray ty (0, 0))] [tu : TA P T false] (HR : ∀ h', Own L' h' → R v h') :
    UR P F N C (.code .ret :: k) l [{ target := .collected db, args := #[] }] h :=
  run_leaveD (u := u) (rs := [.cell t T]) (vs := [v]) G H hf hr (.inr ⟨_, rfl⟩) fun h' o => ⟨⟨⟨_, hv, .loadVar1 (.inl (i.has o)) tu ⟨rfl, rfl⟩⟩, trivial⟩, HR h' o⟩

/-- A cell of a block. -/
def CellAt (h : Hp) (b off : Nat) (v : Value) : Prop := ∃ cs t fr, h b = some (.cells (List.toArray cs) t fr) ∧ cs[off]? = some v
theorem opv_loadQ {t : TypeId} {x : Operand} {b off : Nat} {v : Value} (q : CellAt h b off v) (hop : o.op = .load t x) (hx : ev l x = some (.pointer (some ⟨b, off, none⟩))) [ta : TA P t false] (hk : K v h) : OPV P F N o l h K := by
  obtain ⟨cs, ty, fr, hb, hv⟩ := q
  exact opv_load1 (.inl hb) hop hx hv hk

/-! ### nil -/
def nilC : Value → Value → Option Bool
  | .nilIface, .nilIface => some true
  | .nilIface, .iface _ _ => some false
  | .iface _ _, .nilIface => some false
  | .nilFunc, .nilFunc => some true
  | .func _ _ _, .nilFunc => some false
  | .pointer none, .pointer none => some true
  | .pointer (some _), .pointer none => some false
  | .slice (some _) _ _, .slice none _ _ => some false
  | .slice none _ _, .slice none _ _ => some true
  | _, _ => none
def fitsNil : TypeDesc → Value → Bool
  | .interface _, .nilIface => true
  | .func _ _ _, .nilFunc => true
  | .pointer _, .pointer none => true
  | .slice _, .slice none _ _ => true
  | _, _ => false
theorem SemS.equalNil {t : TypeId} {d : TypeDesc} {x y : Value} {b : Bool} {K : Bool → Hp → Prop} (u : TU P t d) (hf : fitsNil d y = true) (hn : nilC x y = some b) (hk : K b h) : SemS P F h (Op.equal t x y) K := by
  unfold Op.equal Op.maxDepth Op.equalIn
  refine .bind' (.underlying u ?_)
  unfold fitsNil at hf
  split at hf <;> first | (cases hf; done) | skip
  all_goals
    unfold nilC at hn
    split at hn <;> first | (cases hn; done) | skip
  all_goals first
    | contradiction
    | (cases hn; exact .pure' hk)
theorem eqGuard_const {op : BinOp} {d : TypeDesc} {t : TypeId} {x : Operand} {u v : Value} (hop : op = .eql ∨ op = .neq) (hy : fitsNil d u = true) : eqGuard op t x (.const u) v u = pure () := by
  unfold eqGuard
  rcases hop with rfl | rfl <;>
    (cases u <;> first
      | (cases d <;> simp [fitsNil] at hy; done)
      | (cases v <;> simp))
theorem opv_eqNil {t t' : TypeId} {x : Operand} {u v : Value} {b : Bool} (hop : o.op = .binOp .eql t x (.const u) t') (hx : ev l x = some v) (hf : ∃ d, P.underlying t = some d ∧ fitsNil d u = true) (hn : nilC v u = some b) (hk : K (.bool b) h) : OPV P F N o l h K := by
  obtain ⟨d, tu0, hf⟩ := hf
  have tu : TU P t d := ⟨tu0⟩
  refine opv_sem (s := (do eqGuard .eql t x (.const u) v u; binOp .eql t v u)) (fun a e => by simp only [execOp, hop, e.ev hx]; rfl) ?_
  rw [eqGuard_const (by simp) hf]
  refine .bind' (.pure' ?_)
  have : binOp .eql t v u = (do pure (.bool (← Op.equal t v u))) := by
    unfold nilC at hn
    split at hn <;> first | (cases hn; done) | rfl
  rw [this]
  exact .bind' (.equalNil tu hf hn (.pure' hk))
theorem opv_neqNil {t t' : TypeId} {x : Operand} {u v : Value} {b : Bool} (hop : o.op = .binOp .neq t x (.const u) t') (hx : ev l x = some v) (hf : ∃ d, P.underlying t = some d ∧ fitsNil d u = true) (hn : nilC v u = some b) (hk : K (.bool !b) h) : OPV P F N o l h K := by
  obtain ⟨d, tu0, hf⟩ := hf
  have tu : TU P t d := ⟨tu0⟩
  refine opv_sem (s := (do eqGuard .neq t x (.const u) v u; binOp .neq t v u)) (fun a e => by simp only [execOp, hop, e.ev hx]; rfl) ?_
  rw [eqGuard_const (by simp) hf]
  refine .bind' (.pure' ?_)
  have : binOp .neq t v u = (do pure (.bool (!(← Op.equal t v u)))) := by
    unfold nilC at hn
    split at hn <;> first | (cases hn; done) | rfl
  rw [this]
  exact .bind' (.equalNil tu hf hn (.pure' hk))
theorem nilC_slice {a : Option Addr} {n c n' c' : Nat} : nilC (.slice a n c) (.slice none n' c') = some a.isNone := by cases a <;> rfl

/-! ### Slices that are made -/
theorem opv_makeSlice {t e size by_ n : Nat} {i : Int} {z : Value} {zs : List Value} {x y : Operand} {L : List HProp} (H : Own L h) (hop : o.op = .makeSlice t x y) (hx : ev l x = some (.int .i64 i)) (hy : ev l y = some (.int .i64 i))
    [tu : TU P t (.slice e)] [ti : TI P e size by_ z] [cl : CellsL z zs] [ln : LenL zs size] (hi : i = n) (hb : by_ * n ≤ 2 ^ 48) (hn : 0 < n) (hn2 : n < 2 ^ 62) (hs : Nat.blt 0 size = true)
    (hk : ∀ b h', F b = none → Own (pt b (.cells (List.replicate n zs).flatten.toArray e (0, 0)) :: L) h' → K (.slice (some ⟨b, 0, none⟩) n n) h') : OPV P F N o l h K := by
  refine opv_sem (s := Instr.makeSlice t (.int .i64 i) (.int .i64 i)) (fun a e => by simp only [execOp, hop, e.ev hx, e.ev hy]) ?_
  have hs' : 0 < size := by simpa [Nat.blt_eq] using hs
  obtain ⟨ii, hii, his, hib, hiz⟩ := ti.i
  have hw : IntKind.i64.wrap i = n := by subst hi; exact wi (by omega)
  unfold Instr.makeSlice
  refine .bind' (.underlying tu ?_)
  simp only []
  refine .bind' (.pure' (.bind' (.pure' (.bind' (.typeInfo hii ?_)))))
  rw [hw, hib]
  have h1 : ¬ ((n : Int) < 0) := by omega
  have h2 : ¬ ((by_ : Int) * (n : Int) > 2 ^ 48) := by
    have : ((by_ * n : Nat) : Int) ≤ 2 ^ 48 := by exact_mod_cast hb
    rw [Int.natCast_mul] at this; omega
  have h3 : ¬ ((n : Int) > (n : Int)) := by omega
  simp only [h1, h2, decide_false, Bool.or_false, Bool.false_eq_true, if_false, h3, Int.toNat_natCast]
  refine .bind' (.askRoom ?_)
  refine .bind' (.sizeOf ti ?_)
  have hpos : n * size ≠ 0 := Nat.mul_ne_zero (by omega) (by omega)
  simp only [if_neg hpos]
  refine SemS.bind' (SemS.zeroValue ti (SemS.bind' (SemS.pure' ?_)))
  have hz : zs ≠ [] := by intro x; subst x; have := ln.n; simp at this; omega
  have e1 : (Array.range (n * size)).map (fun i => z.cells[i % z.cells.size]!) = (List.replicate n zs).flatten.toArray := by
    rw [cl.c]
    have := rep_cells zs n hz
    rw [ln.n] at this
    exact this
  rw [e1]
  unfold newRow
  exact .bind' (.bind' (.new fun b hb hF => .pure' (.pure' (hk b _ hF (H.new hb)))))

/-- The empty slice that is written out. -/
theorem opv_emptySlice {t e n by_ : Nat} {z : Value} {L : List HProp} (H : Own L h) (hop : o.op = .buildSlice t 0 #[]) [u : TU P t (.slice e)] [ti : TI P e n by_ z]
    (hk : ∀ b h', F b = none → Own (SlR e n (some ⟨b, 0, none⟩) 0 0 [] :: L) h' → K (.slice (some ⟨b, 0, none⟩) 0 0) h') : OPV P F N o l h K := by
  refine opv_sem (s := Instr.buildSlice t 0 #[]) (fun a e => by simp only [execOp, hop, Array.map_empty]) ?_
  unfold Instr.buildSlice
  refine .bind' (.underlying u ?_)
  simp only []
  refine .bind' (.sizeOf ti ?_)
  simp only [Nat.zero_mul, if_true]
  have hbig : ¬ (0 > 2 ^ 24) := by omega
  simp only [if_neg hbig]
  refine SemS.bind' (SemS.pure' ?_)
  have e1 : Instr.fill (fun i => some (i * n, n)) (Array.map (fun x => (#[] : Array Value)[x % 0]!) (Array.range 0)) [] = some #[] := by simp [Instr.fill]
  simp only [List.size_toArray, List.length_nil, e1]
  unfold newRow
  refine SemS.bind' (SemS.bind' (SemS.new fun b hb hF => SemS.pure' (SemS.pure' (hk b _ hF ?_))))
  exact Own.asSl (n := 0) (cs := []) (by simp) (H.new hb)

/-- A slice that can be read: its cells. -/
def SlSrc (F h : Hp) (size : Nat) (a : Option Addr) (n : Nat) (xs : List Value) : Prop :=
  xs.length = n * size ∧ (n = 0 ∨ ∃ b off T fr cxs, a = some ⟨b, off, none⟩ ∧ (h b = some (.cells cxs T fr) ∨ F b = some (.cells cxs T fr)) ∧ off + n * size ≤ cxs.size ∧ cxs.extract off (off + n * size) = xs.toArray)
theorem SlSrc.cells {size n c : Nat} {a : Option Addr} {xs : List Value} {K : Array Value → Hp → Prop} (S : SlSrc F h size a n xs) (hk : K xs.toArray h) : SemS P F h (Builtin.firstCells size n (.slice a n c)) K := by
  obtain ⟨hl, rfl | ⟨b, off, T, fr, cxs, rfl, hb, hle, he⟩⟩ := S
  · have : xs = [] := by apply List.length_eq_zero_iff.1; simpa using hl
    subst this
    cases a with
    | none => exact .pure' hk
    | some a =>
      show SemS P F h (loadCells a (0 * size)) K
      rw [Nat.zero_mul]
      exact .pure' hk
  · show SemS P F h (loadCells ⟨b, off, none⟩ (n * size)) K
    exact SemS.loadCells hb hle (by rw [he]; exact hk)
theorem SlSrc.ofSl {e size n c : Nat} {a : Option Addr} {xs : List Value} {L : List HProp} (H : Own (SlR e size a n c xs :: L) F ∨ Own (SlR e size a n c xs :: L) h) : SlSrc F h size a n xs := by
  have key : ∀ g, Own (SlR e size a n c xs :: L) g → xs.length = n * size ∧ ((a = none ∧ n = 0) ∨ ∃ b off cxs, a = some ⟨b, off, none⟩ ∧ g b = some (.cells cxs e (0, 0)) ∧ off + n * size ≤ cxs.size ∧ cxs.extract off (off + n * size) = xs.toArray) := by
    intro g H
    obtain ⟨q1, q2, q3⟩ := H.openSl
    refine ⟨q1, ?_⟩
    rcases q3 with ⟨x, y, _, _⟩ | ⟨b, off, pre, rest, x, y, z, o⟩
    · exact .inl ⟨x, y⟩
    · refine .inr ⟨b, off, _, x, (inferInstance : Has (pt b (.cells (pre ++ (xs ++ rest)).toArray e (0, 0)) :: L) b _).has o, ?_, ?_⟩
      · simp only [List.size_toArray, List.length_append]; omega
      · apply Array.toList_inj.1
        simp only [Array.toList_extract, List.extract_eq_take_drop]
        rw [show off + n * size - off = n * size by omega, ← y, List.drop_left, ← q1, List.take_left]
  rcases H with H | H
  · obtain ⟨q, x | ⟨b, off, cxs, x⟩⟩ := key F H
    · exact ⟨q, .inl x.2⟩
    · exact ⟨q, .inr ⟨b, off, e, (0, 0), cxs, x.1, .inr x.2.1, x.2.2⟩⟩
  · obtain ⟨q, x | ⟨b, off, cxs, x⟩⟩ := key h H
    · exact ⟨q, .inl x.2⟩
    · exact ⟨q, .inr ⟨b, off, e, (0, 0), cxs, x.1, .inl x.2.1, x.2.2⟩⟩

/-- A slice that lies in what is read alone. -/
def RdSl (F : Hp) (size : Nat) (a : Option Addr) (n : Nat) (xs : List Value) : Prop := ∀ h, SlSrc F h size a n xs
theorem RdSl.ofSl {e size n c : Nat} {a : Option Addr} {xs : List Value} {L : List HProp} (H : Own (SlR e size a n c xs :: L) F) : RdSl F size a n xs := fun _ => SlSrc.ofSl (.inl H)
theorem RdSl.ofPt {b size n : Nat} {T : TypeId} {fr : Nat × Nat} {xs : List Value} (H : F b = some (.cells xs.toArray T fr)) (hl : xs.length = n * size) : RdSl F size (some ⟨b, 0, none⟩) n xs :=
  fun _ => ⟨hl, .inr ⟨b, 0, T, fr, _, rfl, .inr H, by simp; omega, by apply Array.toList_inj.1; simp [List.extract_eq_take_drop, ← hl]⟩⟩
theorem RdSl.mono {F' : Hp} {size n : Nat} {a : Option Addr} {xs : List Value} (hF : Hp.le F F') (R : RdSl F size a n xs) : RdSl F' size a n xs := fun h => by
  obtain ⟨q, x | ⟨b, off, T, fr, cxs, x, y, z⟩⟩ := R Hp.emp
  · exact ⟨q, .inl x⟩
  · refine ⟨q, .inr ⟨b, off, T, fr, cxs, x, .inr (hF b _ ?_), z⟩⟩
    rcases y with y | y
    · cases y
    · exact y
theorem RdSl.none {size n : Nat} {xs : List Value} (R : RdSl F size none n xs) : n = 0 ∧ xs = [] := by
  obtain ⟨q, rfl | ⟨b, off, T, fr, cxs, x, _⟩⟩ := R Hp.emp
  · exact ⟨rfl, by apply List.length_eq_zero_iff.1; simpa using q⟩
  · cases x
theorem opv_appendS {t u e size by_ nx n c cx : Nat} {ts : List TypeId} {xo : Array Operand} {a ax : Option Addr} {z : Value} {zs cs xs : List Value} {L L' : List HProp} (H : Own L h)
    (hop : o.op = .call { callee := .builtin .append, args := xo, argTypes := (t :: u :: ts).toArray }) (hx : evs l xo.toList = some [.slice a n c, .slice ax nx cx])
    [tu : TU P t (.slice e)] [tx : TU P u (.slice e)] [ti : TI P e size by_ z] [cl : CellsL z zs] [ln : LenL zs size] [si : SlIn L a n c e size cs L'] (hsrc : SlSrc F h size ax nx xs)
    (h1 : ones xs = true) (hs0 : Nat.blt 0 size = true) (hb : (2 * (n + nx) + 192) * by_ ≤ 2 ^ 48) (hi : n + nx < 2 ^ 62)
    (hk : ∀ a' c' h', Own (SlR e size a' (n + nx) c' (cs ++ xs) :: L') h' → K (.slice a' (n + nx) c') h') : OPV P F N o l h K := by
  refine opv_builtin (s := Builtin.append_ (t :: u :: ts).toArray o.type #[.slice a n c, .slice ax nx cx]) hop hx (fun t cs => rfl) ?_
  refine SemS.append tu tx ti (H.perm si.p) rfl hsrc.1 h1 (by rw [cl.c]; simpa using ln.n) (by simpa [Nat.blt_eq] using hs0) hb hi ?_ hk
  intro K' hk'
  exact hsrc.cells hk'
end Go.BL
