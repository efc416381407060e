/- Maps whose keys are whole numbers. -/
import Derived.Test.YtnfcoikbkmhggaaGreatOps4
set_option linter.all false
set_option linter.unusedVariables false
set_option linter.unusedSimpArgs false
namespace Go.BL
variable {P : Program} {F h : Hp} {N : Nat} {l : TL} {K : Value → Hp → Prop} {o : Oper}

abbrev mapO (es : List MapEntry) (clk : Nat) : Obj := .map es.toArray clk
theorem opv_makeMap {t : TypeId} {L : List HProp} (H : Own L h) (hop : o.op = .makeMap t none) (hk : ∀ b h', F b = none → Own (pt b (mapO [] 0) :: L) h' → K (.map (some b)) h') : OPV P F N o l h K := by
  refine opv_sem (s := Instr.makeMap t none) (fun a e => by simp only [execOp, hop, Option.map_none]) ?_
  unfold Instr.makeMap
  exact .bind' (.new fun b hb hF => .pure' (hk b _ hF (H.new hb)))

theorem SemS.checkKey {kt : TypeId} {ki : IntKind} {n : Int} {em : Bool} {d : Nat} {K : Unit → Hp → Prop} (tk : TU P kt (.int ki)) (hk : K () h) : SemS P F h (Instr.checkKey em (d + 1) kt (.int ki n)) K := by
  unfold Instr.checkKey
  refine .bind' (.underlying tk ?_)
  exact .pure' hk
theorem SemS.findKey {kt : TypeId} {ki : IntKind} {n : Int} {es : List MapEntry} {r : Option (Nat × Value)} {K : Option (Nat × Value) → Hp → Prop} (tk : TU P kt (.int ki)) (hf : Instr.findNow (.int ki) (.int ki n) es 0 = some r) (hk : K r h) :
    SemS P F h (Instr.findKey kt (.int ki n) es) K := by
  unfold Instr.findKey
  refine .bind' (.underlying tk ?_)
  rw [hf]
  exact .pure' hk

/-- A new key. -/
theorem opv_insert {t kt et : TypeId} {x y z : Operand} {ki : IntKind} {n : Int} {v : Value} {es : List MapEntry} {clk b : Nat} {L L' : List HProp} (H : Own L h) (hop : o.op = .insert t x y z ∨ o.op = .mapUpdate t x y z) (hx : ev l x = some (.map (some b))) (hy : ev l y = some (.int ki n)) (hz : ev l z = some v)
    [tu : TU P t (.map kt et)] [tk : TU P kt (.int ki)] (hf : Instr.findNow (.int ki) (.int ki n) es 0 = some none) [u : Upd L b (mapO es clk) (mapO (es ++ [⟨.int ki n, v, clk⟩]) (clk + 1)) L'] (hk : ∀ h', Own L' h' → K undef h') : OPV P F N o l h K := by
  refine opv_semU (s := Instr.mapUpdate t (.map (some b)) (.int ki n) v) (fun a e => by rcases hop with hop | hop <;> simp only [execOp, hop, e.ev hx, e.ev hy, e.ev hz]) ?_
  obtain ⟨hb, ho⟩ := u.upd H
  unfold Instr.mapUpdate
  refine .bind' (.underlying tu ?_)
  simp only []
  refine .bind' (.getObj (.inl hb) (fun _ _ _ e => by cases e) rfl ?_)
  simp only []
  refine .bind' (.checkKey tk (.bind' (.findKey tk hf ?_)))
  refine .setObj hb (fun _ _ _ e => by cases e) rfl ?_
  simp only [List.push_toArray]
  exact hk _ ho
/-- A key that is there: its value is another. -/
theorem opv_setKey {t kt et : TypeId} {x y z : Operand} {ki : IntKind} {n : Int} {v v0 : Value} {i : Nat} {es es' : List MapEntry} {clk b : Nat} {L L' : List HProp} (H : Own L h) (hop : o.op = .insert t x y z ∨ o.op = .mapUpdate t x y z) (hx : ev l x = some (.map (some b))) (hy : ev l y = some (.int ki n)) (hz : ev l z = some v)
    [tu : TU P t (.map kt et)] [tk : TU P kt (.int ki)] (hf : Instr.findNow (.int ki) (.int ki n) es 0 = some (some (i, v0))) (hi : (es[i]?).map (·.key) = some (.int ki n)) (he : es.modify i (fun e => { e with key := .int ki n, val := v }) = es')
    [u : Upd L b (mapO es clk) (mapO es' clk) L'] (hk : ∀ h', Own L' h' → K undef h') : OPV P F N o l h K := by
  refine opv_semU (s := Instr.mapUpdate t (.map (some b)) (.int ki n) v) (fun a e => by rcases hop with hop | hop <;> simp only [execOp, hop, e.ev hx, e.ev hy, e.ev hz]) ?_
  obtain ⟨hb, ho⟩ := u.upd H
  unfold Instr.mapUpdate
  refine .bind' (.underlying tu ?_)
  simp only []
  refine .bind' (.getObj (.inl hb) (fun _ _ _ e => by cases e) rfl ?_)
  simp only []
  refine .bind' (.checkKey tk (.bind' (.findKey tk hf ?_)))
  have hkey : ((es.toArray[i]?).map (·.key)).getD (.int ki n) = .int ki n := by simp only [List.getElem?_toArray, hi, Option.getD_some]
  simp only [hkey]
  unfold Instr.keyThatStays
  have hs : Instr.sameBits 10000 (.int ki n) (.int ki n) = true := by simp [Instr.sameBits]
  simp only [hs, if_true]
  refine .bind' (.pure' ?_)
  refine .setObj hb (fun _ _ _ e => by cases e) rfl ?_
  rw [List.modify_toArray, he]
  exact hk _ ho

theorem SemS.lookup {t kt et : TypeId} {ki : IntKind} {n : Int} {sz by_ : Nat} {z : Value} {es : List MapEntry} {clk b : Nat} {ok : Bool} {r : Option (Nat × Value)} {K : Value → Hp → Prop} (hb : h b = some (mapO es clk) ∨ F b = some (mapO es clk)) (tu : TU P t (.map kt et)) (tk : TU P kt (.int ki)) (ti : TI P et sz by_ z)
    (hf : Instr.findNow (.int ki) (.int ki n) es 0 = some r) (hk : K (if ok then .tuple #[(r.map (·.2)).getD z, .bool r.isSome] else (r.map (·.2)).getD z) h) : SemS P F h (Instr.lookup t (.map (some b)) (.int ki n) ok) K := by
  unfold Instr.lookup
  refine .bind' (.underlying tu ?_)
  simp only []
  refine SemS.bind' (SemS.getObj hb (fun _ _ _ e => by cases e) rfl ?_)
  refine SemS.bind' (SemS.pure' ?_)
  refine SemS.bind' (SemS.checkKey tk ?_)
  refine SemS.bind' (SemS.findKey tk hf ?_)
  cases r with
  | none => exact SemS.bind' (SemS.zeroValue ti (SemS.bind' (SemS.pure' (SemS.pure' hk))))
  | some q => exact SemS.bind' (SemS.pure' (SemS.pure' hk))
theorem opv_lookup {t kt et : TypeId} {x y : Operand} {ki : IntKind} {n : Int} {sz by_ : Nat} {z : Value} {es : List MapEntry} {clk b : Nat} {ok : Bool} {r : Option (Nat × Value)} (hb : h b = some (mapO es clk) ∨ F b = some (mapO es clk)) (hop : o.op = .lookup t x y ok) (hx : ev l x = some (.map (some b))) (hy : ev l y = some (.int ki n))
    [tu : TU P t (.map kt et)] [tk : TU P kt (.int ki)] [ti : TI P et sz by_ z] (hf : Instr.findNow (.int ki) (.int ki n) es 0 = some r) (hk : K (if ok then .tuple #[(r.map (·.2)).getD z, .bool r.isSome] else (r.map (·.2)).getD z) h) : OPV P F N o l h K := by
  refine opv_sem (s := Instr.lookup t (.map (some b)) (.int ki n) ok) (fun a e => by simp only [execOp, hop, e.ev hx, e.ev hy]) ?_
  exact .lookup hb tu tk ti hf hk
end Go.BL
