/- Slices that are owned with their array, and append. -/
import Derived.Test.YtnfcoikbkmhggaaGreatDraw4
set_option linter.all false
set_option linter.unusedVariables false
set_option linter.unusedSimpArgs false
namespace Go.BL
variable {P : Program} {F h : Hp} {N : Nat} {l : TL} {K : Value → Hp → Prop} {o : Oper}

/-- The slice (a, n, c) of elements of type e, of size cells each: its elements' cells are cs; its array is owned. -/
def SlR (e : TypeId) (size : Nat) (a : Option Addr) (n c : Nat) (cs : List Value) : HProp := fun h =>
  cs.length = n * size ∧ n ≤ c ∧ ((a = none ∧ n = 0 ∧ c = 0) ∨ ∃ b off pre rest, a = some ⟨b, off, none⟩ ∧ pre.length = off ∧ rest.length = (c - n) * size ∧ h b = some (.cells (pre ++ (cs ++ rest)).toArray e (0, 0)))

theorem SlR.nil (e size : Nat) (h : Hp) : SlR e size none 0 0 [] h := ⟨by simp, Nat.le_refl _, .inl ⟨rfl, rfl, rfl⟩⟩
theorem Own.addNil (e size : Nat) {L : List HProp} {h : Hp} (H : Own L h) : Own (SlR e size none 0 0 [] :: L) h :=
  ⟨Hp.emp, h, Hp.dj_emp_l _, by rw [Hp.un_emp_l]; exact Hp.le_refl _, SlR.nil e size _, H⟩
/-- A whole block as a slice. -/
theorem Own.asSl {e size b n : Nat} {cs : List Value} {L : List HProp} {h : Hp} (hn : cs.length = n * size) (H : Own (pt b (.cells cs.toArray e (0, 0)) :: L) h) : Own (SlR e size (some ⟨b, 0, none⟩) n n cs :: L) h := by
  obtain ⟨h1, h2, d, l, a, o⟩ := H
  exact ⟨h1, h2, d, l, ⟨hn, Nat.le_refl _, .inr ⟨b, 0, [], [], rfl, rfl, by simp, by simpa [pt] using a⟩⟩, o⟩
/-- The slice's array laid open. -/
theorem Own.openSl {e size n c : Nat} {a : Option Addr} {cs : List Value} {L : List HProp} {h : Hp} (H : Own (SlR e size a n c cs :: L) h) :
    cs.length = n * size ∧ n ≤ c ∧ ((a = none ∧ n = 0 ∧ c = 0 ∧ Own L h) ∨ ∃ b off pre rest, a = some ⟨b, off, none⟩ ∧ pre.length = off ∧ rest.length = (c - n) * size ∧ Own (pt b (.cells (pre ++ (cs ++ rest)).toArray e (0, 0)) :: L) h) := by
  obtain ⟨h1, h2, d, l, ⟨q1, q2, q3⟩, o⟩ := H
  refine ⟨q1, q2, ?_⟩
  rcases q3 with ⟨x, y, z⟩ | ⟨b, off, pre, rest, x, y, z, u⟩
  · exact .inl ⟨x, y, z, o.mono (Hp.le_trans (Hp.le_un_r d) l)⟩
  · exact .inr ⟨b, off, pre, rest, x, y, z, h1, h2, d, l, u, o⟩
theorem Own.shutSl {e size n c b off : Nat} {cs pre rest : List Value} {L : List HProp} {h : Hp} (q1 : cs.length = n * size) (q2 : n ≤ c) (q3 : pre.length = off) (q4 : rest.length = (c - n) * size)
    (H : Own (pt b (.cells (pre ++ (cs ++ rest)).toArray e (0, 0)) :: L) h) : Own (SlR e size (some ⟨b, off, none⟩) n c cs :: L) h := by
  obtain ⟨h1, h2, d, l, a, o⟩ := H
  exact ⟨h1, h2, d, l, ⟨q1, q2, .inr ⟨b, off, pre, rest, rfl, q3, q4, a⟩⟩, o⟩

theorem growBy_le (m : Nat) : ∀ (r c : Nat), c ≤ 2 * m + 192 → Builtin.growBy m r c ≤ 2 * m + 192
  | 0, c, hc => by unfold Builtin.growBy; exact hc
  | r + 1, c, hc => by
    unfold Builtin.growBy
    split
    · exact hc
    · exact growBy_le m r _ (by omega)
theorem nextslicecap_le {m c : Nat} (hc : c < m) : Builtin.nextslicecap m c ≤ 2 * m + 192 := by
  unfold Builtin.nextslicecap
  split
  · omega
  · split
    · omega
    · exact growBy_le m 4 c (by omega)

theorem SemS.askRoom {n : Nat} {K : Unit → Hp → Prop} (hk : K () h) : SemS P F h (askRoom n) K := by
  unfold Go.askRoom
  split
  · exact .markRoom hk
  · exact .pure' hk

theorem putC_mid : ∀ (vs pre mid post : List Value), mid.length = vs.length → putC (pre ++ (mid ++ post)).toArray pre.length vs = (pre ++ (vs ++ post)).toArray
  | [], pre, mid, post, hm => by
    have : mid = [] := List.length_eq_zero_iff.1 (by simpa using hm)
    subst this
    rfl
  | v :: vs, pre, mid, post, hm => by
    cases mid with
    | nil => simp at hm
    | cons m mid =>
      unfold putC
      have e1 : (pre ++ (m :: mid ++ post)).toArray.setIfInBounds pre.length v = ((pre ++ [v]) ++ (mid ++ post)).toArray := by
        apply Array.toList_inj.1
        simp
      rw [e1]
      have := putC_mid vs (pre ++ [v]) mid post (by simpa using hm)
      simp only [List.length_append, List.length_singleton] at this
      rw [this]
      congr 1
      simp

/-- append(s, x...): what is appended is read as xs. -/
theorem SemS.append {t u e size by_ nx n c : Nat} {ts : List TypeId} {ty : TypeId} {a : Option Addr} {x z : Value} {cs xs : List Value} {L : List HProp} {K : Value → Hp → Prop} (tu : TU P t (.slice e)) (tx : TU P u (.slice e)) (ti : TI P e size by_ z)
    (H : Own (SlR e size a n c cs :: L) h) (hlen : Builtin.lenOf x = (Pure.pure nx : Sem Nat)) (hxs : xs.length = nx * size) (h1 : ones xs = true) (hsz : z.cells.size = size) (hs0 : 0 < size) (hb : (2 * (n + nx) + 192) * by_ ≤ 2 ^ 48) (hi : n + nx < 2 ^ 62)
    (hx : ∀ K', K' xs.toArray h → SemS P F h (Builtin.firstCells size nx x) K')
    (hk : ∀ a' c' h', Own (SlR e size a' (n + nx) c' (cs ++ xs) :: L) h' → K (.slice a' (n + nx) c') h') : SemS P F h (Builtin.append_ (t :: u :: ts).toArray ty #[.slice a n c, x]) K := by
  obtain ⟨q1, q2, q3⟩ := H.openSl
  unfold Builtin.append_
  simp only [List.getElem?_toArray, List.getElem?_cons_zero, List.getElem?_cons_succ]
  refine SemS.bind' (.underlying tu ?_)
  refine SemS.bind' (.sizeOf ti (SemS.bind' (SemS.underlying tx (SemS.bind' (SemS.pure' ?_)))))
  simp only [Bool.false_eq_true, if_false, hlen]
  refine SemS.bind' (.pure' ?_)
  by_cases hroom : n + nx ≤ c
  · simp only [hroom, if_true, Bool.not_false]
    refine .bind' (hx _ ?_)
    rcases q3 with ⟨rfl, hn, hc, HL⟩ | ⟨b, off, pre, rest, rfl, q4, q5, HL⟩
    · subst hn; subst hc
      have hnx : nx = 0 := by omega
      subst hnx
      have hx0 : xs = [] := List.length_eq_zero_iff.1 (by simpa using hxs)
      subst hx0
      simp only []
      refine .pure' (hk none 0 h ?_)
      rw [List.append_nil]
      exact H
    · simp only []
      refine .bind' ?_
      rw [addr_add]
      by_cases hx0 : xs = []
      · subst hx0
        have hnx : nx = 0 := by
          simp only [List.length_nil] at hxs
          rcases Nat.mul_eq_zero.1 hxs.symm with y | y
          · exact y
          · omega
        subst hnx
        unfold Go.storeCells
        refine .pure' (.pure' (hk _ _ h ?_))
        rw [List.append_nil]
        exact H
      · -- the cells behind
        have hrest : nx * size ≤ rest.length := by rw [q5, Nat.sub_mul]; have := Nat.mul_le_mul_right size hroom; rw [Nat.add_mul] at this; omega
        have hsplit : rest = rest.take (nx * size) ++ rest.drop (nx * size) := (List.take_append_drop _ _).symm
        have hat : pre ++ (cs ++ rest) = (pre ++ cs) ++ (rest.take (nx * size) ++ rest.drop (nx * size)) := by rw [← hsplit, List.append_assoc]
        have hplace : (pre ++ cs).length = off + n * size := by rw [List.length_append, q4, q1]
        have hput := putC_mid xs (pre ++ cs) (rest.take (nx * size)) (rest.drop (nx * size)) (by rw [List.length_take, hxs]; omega)
        obtain ⟨hbb, ho⟩ := (inferInstance : Upd (pt b (.cells (pre ++ (cs ++ rest)).toArray e (0, 0)) :: L) b _ (.cells ((pre ++ cs) ++ (xs ++ rest.drop (nx * size))).toArray e (0, 0)) _).upd HL
        refine SemS.storeCells xs 0 h _ hbb ?_ rfl (ones_all h1) fun h' e1 e2 => ?_
        · simp only [List.size_toArray, List.length_append, q4, q1, hxs]; omega
        · rw [e2 hx0, Nat.add_zero, hat, ← hplace, hput]
          refine .pure' (hk _ _ _ ?_)
          refine Own.shutSl (pre := pre) (rest := rest.drop (nx * size)) (by rw [List.length_append, q1, hxs, Nat.add_mul]) hroom q4 ?_ ?_
          · rw [List.length_drop, q5]
            rw [Nat.sub_mul, Nat.sub_mul, Nat.add_mul]; omega
          · have e3 : pre ++ (cs ++ xs ++ rest.drop (nx * size)) = (pre ++ cs) ++ (xs ++ rest.drop (nx * size)) := by simp [List.append_assoc]
            rw [e3]; exact ho
  · simp only [hroom, if_false]
    have hbig : ¬ ((((n + nx : Nat) : Int)) > IntKind.i64.max) := by
      have : IntKind.i64.max = 9223372036854775807 := by decide
      rw [this]; omega
    obtain ⟨i, hii, _, hby, hzz⟩ := ti.i
    refine SemS.bind' (SemS.typeInfo hii ?_)
    rw [if_neg (fun y => hbig y.1)]
    refine SemS.bind' (SemS.typeInfo hii ?_)
    have hcap : ¬ (Builtin.nextslicecap (n + nx) c * i.bytes > 2 ^ 48) := by
      have h1 := nextslicecap_le (m := n + nx) (c := c) (by omega)
      have h2 := Nat.mul_le_mul_right by_ h1
      rw [hby]; omega
    rw [if_neg hcap]
    refine SemS.bind' (SemS.choose fun nc _ hnc => ?_)
    obtain ⟨m, hnc⟩ := hnc rfl
    have hge : n + nx ≤ nc := by rw [hnc]; simp only [Question.cut]; omega
    refine SemS.bind' (SemS.typeInfo hii (SemS.bind' (SemS.askRoom ?_)))
    -- what was there
    have hold : ∀ K' : Array Value → Hp → Prop, K' cs.toArray h → SemS P F h (Builtin.firstCells size n (.slice a n c)) K' := by
      intro K' hk'
      rcases q3 with ⟨rfl, hn, hc, _⟩ | ⟨b, off, pre, rest, rfl, q4, q5, HL⟩
      · have : cs = [] := List.length_eq_zero_iff.1 (by rw [q1, hn]; simp)
        subst this
        exact .pure' hk'
      · have hbb := (inferInstance : Has (pt b (.cells (pre ++ (cs ++ rest)).toArray e (0, 0)) :: L) b _).has HL
        refine SemS.loadCells (.inl hbb) (by simp only [List.size_toArray, List.length_append]; omega) ?_
        have e0 : (pre ++ (cs ++ rest)).toArray.extract off (off + n * size) = cs.toArray := by
          apply Array.toList_inj.1
          simp only [Array.toList_extract, List.extract_eq_take_drop]
          rw [show off + n * size - off = cs.length by omega, ← q4]
          simp
        rw [e0]; exact hk'
    refine SemS.bind' (hold _ ?_)
    simp only [Bool.not_false, if_true]
    refine SemS.bind' (hx _ ?_)
    refine SemS.bind' (SemS.zeroValue ti (SemS.bind' ?_))
    refine SemS.bind' (SemS.new fun b hb hF => ?_)
    refine SemS.pure' (SemS.pure' (hk _ _ _ ?_))
    have hz : (Builtin.zeroCells z.cells (nc - (n + nx))).toList.length = (nc - (n + nx)) * size := by simp [Builtin.zeroCells, hsz]
    refine Own.shutSl (pre := []) (rest := (Builtin.zeroCells z.cells (nc - (n + nx))).toList) (by rw [List.length_append, q1, hxs, Nat.add_mul]) hge rfl hz ?_
    have e1 : (cs.toArray ++ xs.toArray ++ Builtin.zeroCells z.cells (nc - (n + nx))) = ([] ++ (cs ++ xs ++ (Builtin.zeroCells z.cells (nc - (n + nx))).toList)).toArray := by
      apply Array.toList_inj.1
      simp
    rw [e1]
    exact Own.new hb H.tail

/-- A slice among the parts. -/
class SlIn (L : List HProp) (a : Option Addr) (n c : Nat) (e size : outParam Nat) (cs : outParam (List Value)) (L' : outParam (List HProp)) : Prop where
  p : L.Perm (SlR e size a n c cs :: L')
instance (priority := high) {L : List HProp} {a : Option Addr} {n c e size : Nat} {cs : List Value} : SlIn (SlR e size a n c cs :: L) a n c e size cs L := ⟨.refl _⟩
instance {A : HProp} {L L' : List HProp} {a : Option Addr} {n c e size : Nat} {cs : List Value} [i : SlIn L a n c e size cs L'] : SlIn (A :: L) a n c e size cs (A :: L') := ⟨(i.p.cons A).trans (.swap _ _ _)⟩

/-- append(s, x): s a slice that is owned, x one that can be read. -/
theorem opv_append {t u e size by_ nx n c mm cx : Nat} {ts : List TypeId} {xo : Array Operand} {a : Option Addr} {bx ox : Nat} {T : TypeId} {fr : Nat × Nat} {z : Value} {zs cs xs cxs : List Value} {L L' : List HProp} (H : Own L h)
    (hop : o.op = .call { callee := .builtin .append, args := xo, argTypes := (t :: u :: ts).toArray }) (hx : evs l xo.toList = some [.slice a n c, .slice (some ⟨bx, ox, none⟩) nx cx])
    [tu : TU P t (.slice e)] [tx : TU P u (.slice e)] [ti : TI P e size by_ z] [cl : CellsL z zs] [ln : LenL zs size] [si : SlIn L a n c e size cs L'] (hsrc : h bx = some (.cells cxs.toArray T fr) ∨ F bx = some (.cells cxs.toArray T fr))
    [m : MulN nx size mm] [g : GetL cxs ox mm xs] (h1 : ones xs = true) (hs0 : Nat.blt 0 size = true) (hb : (2 * (n + nx) + 192) * by_ ≤ 2 ^ 48) (hi : n + nx < 2 ^ 62)
    (hk : ∀ a' c' h', Own (SlR e size a' (n + nx) c' (cs ++ xs) :: L') h' → K (.slice a' (n + nx) c') h') : OPV P F N o l h K := by
  refine opv_builtin (s := Builtin.append_ (t :: u :: ts).toArray o.type #[.slice a n c, .slice (some ⟨bx, ox, none⟩) nx cx]) hop hx (fun t cs => rfl) ?_
  have hxl : xs.length = nx * size := by
    have := g.g
    rw [m.m, ← this.2, List.length_take, List.length_drop]; omega
  refine SemS.append tu tx ti (H.perm si.p) rfl hxl h1 (by rw [cl.c]; simpa using ln.n) (by simpa [Nat.blt_eq] using hs0) hb hi ?_ hk
  intro K' hk'
  show SemS P F h (loadCells ⟨bx, ox, none⟩ (nx * size)) K'
  refine SemS.loadCells hsrc (by rw [m.m]; simpa using g.g.1) ?_
  have e0 : cxs.toArray.extract ox (ox + nx * size) = xs.toArray := by
    apply Array.toList_inj.1
    simp only [Array.toList_extract, List.extract_eq_take_drop]
    rw [show ox + nx * size - ox = mm by rw [m.m]; omega]
    exact g.g.2
  rw [e0]; exact hk'

/-- Where all is free the heap stays. -/
theorem TO.keep {Q : Hp → Prop} {ops : Array Oper} {free : List Nat} {Kq : TL → Hp → Prop} : ∀ {js : List Nat} {l : TL} {h : Hp}, (∀ i ∈ js, i ∈ free) → TO P F N Q ops free js l h Kq → TO P F N Q ops free js l h fun l' h' => Kq l' h' ∧ h' = h
  | [], _, _, _, H => ⟨H, rfl⟩
  | j :: js, l, h, hf, ⟨o, w, a, b, c, t1, t2, t3⟩ => by
    have hj : free.contains j = true := by simpa using hf j (by simp)
    refine ⟨o, w, a, b, c, fun hw hc => ?_, fun hw hc => (by rw [hj] at hc; cases hc), fun hw => TO.keep (fun i hi => hf i (by simp [hi])) (t3 hw)⟩
    obtain ⟨v, hv, ht⟩ := t1 hw hc
    exact ⟨v, hv, TO.keep (fun i hi => hf i (by simp [hi])) ht⟩

/-! ### Parts taken by their places, found by program -/
class TakeN (i : Nat) (L : List HProp) (A : outParam HProp) (L' : outParam (List HProp)) : Prop where
  p : L.Perm (A :: L')
instance {A : HProp} {L : List HProp} : TakeN 0 (A :: L) A L := ⟨.refl _⟩
instance {A B : HProp} {L L' : List HProp} {i : Nat} [t : TakeN i L A L'] : TakeN (i + 1) (B :: L) A (B :: L') := ⟨(t.p.cons B).trans (.swap _ _ _)⟩
/-- Those of the places is (each counted when those ahead of it are taken), and the others. -/
class TakeLs (is : List Nat) (L : List HProp) (T D : outParam (List HProp)) : Prop where
  p : L.Perm (T ++ D)
instance {L : List HProp} : TakeLs [] L [] L := ⟨.refl _⟩
instance {i : Nat} {is : List Nat} {L L' T D : List HProp} {A : HProp} [t : TakeN i L A L'] [r : TakeLs is L' T D] : TakeLs (i :: is) L (A :: T) D := ⟨t.p.trans (r.p.cons A)⟩
class AppP (xs ys : List HProp) (zs : outParam (List HProp)) : Prop where
  a : xs ++ ys = zs
instance {ys : List HProp} : AppP [] ys ys := ⟨rfl⟩
instance {x : HProp} {xs ys zs : List HProp} [i : AppP xs ys zs] : AppP (x :: xs) ys (x :: zs) := ⟨by rw [List.cons_append, i.a]⟩

/-- A contract, met: the parts ro are lent to be read, the parts own are handed over; the others stay. -/
theorem opv_to {f : FuncId} {args : Array Value} {R K : Value → Hp → Prop} {L LR L1 LO LX : List HProp} (ro own : List Nat) (H : Own L h) [t1 : TakeLs ro L LR L1] [t2 : TakeLs own L1 LO LX]
    (spec : ∀ F' h1, Hp.le F F' → Own LR F' → Own LO h1 → CallS P F' f args h1 R)
    (hk : ∀ v h1 h', R v h1 → (∀ {LN L2 L3} [AppP LR LX L2] [AppP LN L2 L3], Own LN h1 → Own L3 h') → K v h') : CallS P F f args h K := by
  have H' : Own (LR ++ L1) h := H.perm t1.p
  obtain ⟨hr, hx, d1, l1, oR, oX⟩ := H'.append
  obtain ⟨h1, h2, d2, l2, o1, o2⟩ := (oX.perm t2.p).append
  have dr1 : Hp.dj hr h1 := Hp.dj_mono d1 (Hp.le_refl _) (Hp.le_trans (Hp.le_un_l _ _) l2)
  have dr2 : Hp.dj hr h2 := Hp.dj_mono d1 (Hp.le_refl _) (Hp.le_trans (Hp.le_un_r d2) l2)
  have d12 : Hp.dj (Hp.un hr h1) h2 := Hp.dj_un_l dr2 d2
  have lall : Hp.le (Hp.un (Hp.un hr h1) h2) h := by
    rw [Hp.un_assoc]
    exact Hp.le_trans (Hp.un_le (Hp.le_un_l _ _) (Hp.le_trans l2 (Hp.le_un_r d1))) l1
  have e := Hp.less_un lall
  have d3 := Hp.less_dj h (Hp.un (Hp.un hr h1) h2)
  have hle : Hp.le F (Hp.un F hr) := Hp.le_un_l _ _
  intro main Stop cs hcont
  refine Run.fits fun ⟨w, fw⟩ => ?_
  have dF : Hp.dj F hr := Hp.dj_mono fw.dj (Hp.le_refl _) (Hp.le_trans (Hp.le_un_l _ _) (Hp.le_trans (Hp.le_un_l _ _) lall))
  have c := ((spec (Hp.un F hr) h1 hle (oR.mono (Hp.le_un_r dF)) o1).thaw dr1).frame (h2 := h2) d12
  have c2 := c.frame d3
  rw [← e] at c2
  refine c2 main Stop cs ?_
  rintro v fr h' lv hf ⟨ha, rfl, da, hb, rfl, db, hc, rfl, dc, r⟩
  refine hcont v fr _ lv hf (hk v hc _ r fun {LN L2 L3} a1 a2 o => ?_)
  have hrhc : Hp.dj hc hr := Hp.dj_symm dc
  have dcb : Hp.dj hc h2 := Hp.dj_mono db (Hp.le_un_r dc) (Hp.le_refl _)
  have dr2' : Hp.dj hr h2 := Hp.dj_mono db (Hp.le_un_l _ _) (Hp.le_refl _)
  rw [← a2.a, ← a1.a]
  refine Own.mono (Hp.le_un_l _ _) (Own.join (h1 := hc) (h2 := Hp.un hr h2) (Hp.dj_un_r hrhc dcb) ?_ o (Own.join dr2' (Hp.le_refl _) oR o2))
  rw [← Hp.un_assoc, Hp.un_comm hrhc]
  exact Hp.le_refl _

/-- A piece of a drawn region, some parts being lent to be read the while. -/
theorem ud_ro {C : Ctx} {k : List Item} {ds : List Deferred} {O ops : Array Oper} {S : List Nat} {L LR D : List HProp} (ro js free : List Nat) (hc : closedS O S = true) (hg : segOK O ops N S js free = true) (HL : Own L h) [t : TakeLs ro L LR D]
    (H : ∀ F' h1, Hp.le F F' → Own LR F' → Own D h1 →
      TO P F' N QT ops free js l h1 fun l' h2 => ∀ h3, (∀ {LN L3} [AppP LN LR L3], Own LN h2 → Own L3 h3) → UD P F N C O ops (S ++ js) k l' ds h3) : UD P F N C O ops S k l ds h := by
  have HL' := HL.perm t.p
  intro jp hl a e hd
  obtain ⟨hr, hx, d, le_, oR, oX⟩ := HL'.append
  have e0 := Hp.less_un le_
  have d3 := Hp.less_dj h (Hp.un hr hx)
  refine Run.fits fun ⟨w, fw⟩ => ?_
  have dF : Hp.dj F hr := Hp.dj_mono fw.dj (Hp.le_refl _) (Hp.le_trans (Hp.le_un_l _ _) le_)
  have c := H (Hp.un F hr) hx (Hp.le_un_l _ _) (oR.mono (Hp.le_un_r dF)) oX
  have r : Run P C.main (Hp.un F hr) (fun fr cs h2 => cs = C.cs ∧ ∃ l' js' a, LinC O (S ++ js) js' ∧ Env N l' a ∧ a.defers = ds ∧ fr = fat C.b a (.inRegion ops js' :: k) ∧
      ∀ h3, (∀ {LN L3} [AppP LN LR L3], Own LN h2 → Own L3 h3) → UD P F N C O ops (S ++ js) k l' ds h3) (fat C.b a (.inRegion ops jp :: k)) C.cs hx := by
    refine seg_run (Q := QT) (C := { C with Stop := _ }) (segOK_spec hg) (closedS_spec hc) (fun l' h' js a hK hl e hd => Run.stop ⟨rfl, l', js, a, hl, e, hd, rfl, hK⟩) jp S [] [] js l hx a a ?_ hl trivial c
    exact Inv.start (segOK_spec hg) (closedS_spec hc) e hd
  have r2 := (r.thaw d).frame d3
  rw [← e0] at r2
  refine r2.bind ?_
  rintro fr cs hh ⟨ha, rfl, da, hb, rfl, db, rfl, l', js', a', q1, q2, q3, rfl, q4⟩
  refine q4 _ (fun {LN L3} ap o => ?_) js' q1 a' q2 q3
  rw [← ap.a]
  refine Own.mono (Hp.le_un_l _ _) (Own.join (Hp.dj_symm db) ?_ o oR)
  rw [Hp.un_comm (Hp.dj_symm db)]
  exact Hp.le_refl _

/-- The same, with a fact that holds throughout. -/
theorem ud_roQ (Q : Hp → Prop) {C : Ctx} {k : List Item} {ds : List Deferred} {O ops : Array Oper} {S : List Nat} {L LR D : List HProp} (ro js free : List Nat) (hc : closedS O S = true) (hg : segOK O ops N S js free = true) (HL : Own L h) [t : TakeLs ro L LR D]
    (H : ∀ F' h1, Hp.le F F' → Own LR F' → Own D h1 →
      Q h1 ∧ TO P F' N Q ops free js l h1 fun l' h2 => ∀ h3, (∀ {LN L3} [AppP LN LR L3], Own LN h2 → Own L3 h3) → UD P F N C O ops (S ++ js) k l' ds h3) : UD P F N C O ops S k l ds h := by
  have HL' := HL.perm t.p
  intro jp hl a e hd
  obtain ⟨hr, hx, d, le_, oR, oX⟩ := HL'.append
  have e0 := Hp.less_un le_
  have d3 := Hp.less_dj h (Hp.un hr hx)
  refine Run.fits fun ⟨w, fw⟩ => ?_
  have dF : Hp.dj F hr := Hp.dj_mono fw.dj (Hp.le_refl _) (Hp.le_trans (Hp.le_un_l _ _) le_)
  obtain ⟨hq, c⟩ := H (Hp.un F hr) hx (Hp.le_un_l _ _) (oR.mono (Hp.le_un_r dF)) oX
  have r : Run P C.main (Hp.un F hr) (fun fr cs h2 => cs = C.cs ∧ ∃ l' js' a, LinC O (S ++ js) js' ∧ Env N l' a ∧ a.defers = ds ∧ fr = fat C.b a (.inRegion ops js' :: k) ∧
      ∀ h3, (∀ {LN L3} [AppP LN LR L3], Own LN h2 → Own L3 h3) → UD P F N C O ops (S ++ js) k l' ds h3) (fat C.b a (.inRegion ops jp :: k)) C.cs hx := by
    refine seg_run (Q := Q) (C := { C with Stop := _ }) (segOK_spec hg) (closedS_spec hc) (fun l' h' js a hK hl e hd => Run.stop ⟨rfl, l', js, a, hl, e, hd, rfl, hK⟩) jp S [] [] js l hx a a ?_ hl hq c
    exact Inv.start (segOK_spec hg) (closedS_spec hc) e hd
  have r2 := (r.thaw d).frame d3
  rw [← e0] at r2
  refine r2.bind ?_
  rintro fr cs hh ⟨ha, rfl, da, hb, rfl, db, rfl, l', js', a', q1, q2, q3, rfl, q4⟩
  refine q4 _ (fun {LN L3} ap o => ?_) js' q1 a' q2 q3
  rw [← ap.a]
  refine Own.mono (Hp.le_un_l _ _) (Own.join (Hp.dj_symm db) ?_ o oR)
  rw [Hp.un_comm (Hp.dj_symm db)]
  exact Hp.le_refl _

/-- A part that is several. -/
theorem Own.unfold {A : HProp} {L LA L' : List HProp} {h : Hp} (H : Own (A :: L) h) (hA : ∀ h, A h → Own LA h) [ap : AppP LA L L'] : Own L' h := by
  obtain ⟨h1, h2, d, l, a, o⟩ := H
  rw [← ap.a]
  exact Own.join d l (hA h1 a) o
theorem Own.ex {A : HProp} {L : List HProp} {h : Hp} {α : Sort _} {B : α → HProp} (H : Own (A :: L) h) (hA : ∀ h, A h → ∃ x, B x h) : ∃ x, Own (B x :: L) h := by
  obtain ⟨h1, h2, d, l, a, o⟩ := H
  obtain ⟨x, b⟩ := hA h1 a
  exact ⟨x, h1, h2, d, l, b, o⟩
/-- Several parts as one. -/
theorem Own.fold {A : HProp} {L LA D : List HProp} {h : Hp} (is : List Nat) (H : Own L h) [t : TakeLs is L LA D] (hA : ∀ h, Own LA h → A h) : Own (A :: D) h := by
  obtain ⟨h1, h2, d, l, o1, o2⟩ := (H.perm t.p).append
  exact ⟨h1, h2, d, l, hA h1 o1, o2⟩
theorem Own.bring {L LA D L' : List HProp} {h : Hp} (is : List Nat) (H : Own L h) [t : TakeLs is L LA D] [ap : AppP LA D L'] : Own L' h := by
  rw [← ap.a]; exact H.perm t.p

/-- A piece of a drawn region in which nothing is turned: all parts are lent to be read. -/
theorem ud_all {C : Ctx} {k : List Item} {ds : List Deferred} {O ops : Array Oper} {S : List Nat} {L : List HProp} (js : List Nat) (hc : closedS O S = true) (hg : segOK O ops N S js js = true) (HL : Own L h)
    (H : ∀ F', Hp.le F F' → Own L F' → TO P F' N QT ops js js l Hp.emp fun l' _ => UD P F N C O ops (S ++ js) k l' ds h) : UD P F N C O ops S k l ds h := by
  intro jp hl a e hd
  refine Run.fits fun ⟨w, fw⟩ => ?_
  have dF : Hp.dj F h := fw.dj
  have c := H (Hp.un F h) (Hp.le_un_l _ _) (HL.mono (Hp.le_un_r dF))
  have r : Run P C.main (Hp.un F h) (fun fr cs h2 => cs = C.cs ∧ ∃ l' js' a, LinC O (S ++ js) js' ∧ Env N l' a ∧ a.defers = ds ∧ fr = fat C.b a (.inRegion ops js' :: k) ∧
      UD P F N C O ops (S ++ js) k l' ds h ∧ h2 = Hp.emp) (fat C.b a (.inRegion ops jp :: k)) C.cs Hp.emp := by
    refine seg_run (Q := QT) (C := { C with Stop := _ }) (K := fun l' h2 => UD P F N C O ops (S ++ js) k l' ds h ∧ h2 = Hp.emp) (segOK_spec hg) (closedS_spec hc) (fun l' h' js a hK hl e hd => Run.stop ⟨rfl, l', js, a, hl, e, hd, rfl, hK⟩) jp S [] [] js l Hp.emp a a ?_ hl trivial ?_
    · exact Inv.start (segOK_spec hg) (closedS_spec hc) e hd
    · exact TO.keep (fun i hi => hi) c
  have r2 := r.thaw (Hp.dj_emp_r h)
  rw [Hp.un_emp_r] at r2
  refine r2.bind ?_
  rintro fr cs hh ⟨ha, rfl, da, rfl, l', js', a', q1, q2, q3, rfl, q4, rfl⟩
  rw [Hp.un_emp_r]
  exact q4 js' q1 a' q2 q3
end Go.BL
