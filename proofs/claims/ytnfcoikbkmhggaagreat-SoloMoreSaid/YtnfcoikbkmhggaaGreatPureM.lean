/- The machines as plain functions: add, pool, claim, admit, release, count; threads, events, the scheduler. -/
import Derived.Test.YtnfcoikbkmhggaaGreatPure
set_option linter.all false
set_option linter.unusedVariables false
set_option linter.unusedSimpArgs false
namespace Go.BL
/-! ### Draws -/
def drShl (n k : Int) : Int := xorB .u32 n (shl .u32 n k)
def drShr (n k : Int) : Int := xorB .u32 n (shr .u32 n k)
def drOf (x : Int) : Int := if x ≠ IntKind.i64.wrap (IntKind.u32.wrap x) ∨ IntKind.u32.wrap x = 0 then 1 else IntKind.u32.wrap x
def drNext (x : Int) : Int := IntKind.i64.wrap (drShl (drShr (drShl (drOf x) 13) 17) 5)
/-! ### A number is added -/
inductive AdK where
  | begin | look | keep | opn | empty | flush | close | undo | grow | fin
  deriving DecidableEq
structure Ad where
  base : Nat
  stripes : Int
  gate : Int
  d : Int
  x : Int
  lives : Int
  stripe : Nat
  w : Int
  v : Int
  st : AdK
def Ad.again (s : Ad) : Ad := { s with x := drNext s.x, st := .begin }
def Ad.miss (s : Ad) : Ad := if s.lives < s.stripes then { s with st := .grow } else s.again
def absM (v : Int) : Int := if w64 (0 - v) > v then w64 (0 - v) else v
def Ad.go (s : Ad) (ws : List Int) : Ad × List Int :=
  match s.st with
  | .begin => ({ s with lives := rd ws (s.base + 3), stripe := s.base + 4 + (s.x.tmod (rd ws (s.base + 3))).toNat, st := .look }, ws)
  | .look => ({ s with w := rd ws s.stripe, v := w64 (pkValue (rd ws s.stripe) + s.d), st := if absM (w64 (pkValue (rd ws s.stripe) + s.d)) < s.gate then .keep else .opn }, ws)
  | .keep => (if rd ws s.stripe = s.w then { s with st := .fin } else s.miss, casW ws s.stripe s.w (pkNext s.w s.v).1)
  | .opn => ({ s with st := .empty }, addW ws (s.base + 1) 1)
  | .empty => ({ s with st := if rd ws s.stripe = s.w then .flush else .undo }, casW ws s.stripe s.w (pkNext s.w 0).1)
  | .flush => ({ s with st := .close }, addW ws s.base s.v)
  | .close => ({ s with st := .fin }, addW ws (s.base + 2) 1)
  | .undo => (s.miss, addW ws (s.base + 2) 1)
  | .grow => (s.again, casW ws (s.base + 3) s.lives (w64 (2 * s.lives)))
  | .fin => (s, ws)
def Ad.done (s : Ad) : Bool := decide (s.st = .fin)
def Ad.stepX (s : Ad) (ws : List Int) : Ad × List Int := s.go ws
/-- What a step asks of the words. -/
structure Ad.Safe (s : Ad) (ws : List Int) : Prop where
  len : s.base + 4 + 8 ≤ ws.length + 8
  str : 1 ≤ s.stripes ∧ s.stripes ≤ 8 ∧ (s.base : Int) + 4 + s.stripes ≤ ws.length
  x : 0 ≤ s.x
  live : s.st = .begin → 1 ≤ rd ws (s.base + 3) ∧ rd ws (s.base + 3) ≤ 8
  at_ : s.st ≠ .begin → s.stripe < ws.length
def Ad.mk' (base : Nat) (stripes gate d thread : Int) : Ad := ⟨base, stripes, gate, d, drBegin thread, 0, 0, 0, 0, .begin⟩
/-! ### Tokens of a node -/
inductive PoK where
  | look | spend | price | buy | room | keep | back | over
  deriving DecidableEq
def PoK.num : PoK → Int
  | .look => 0 | .spend => 1 | .price => 2 | .buy => 3 | .room => 4 | .keep => 5 | .back => 6 | .over => 7
structure Po where
  avail : Nat
  lease : Nat
  node : Int
  n : Int
  limit : Int
  st : PoK
  had : Int
  saw : Int
  extra : Int
  ans : Ans
def Po.priced (s : Po) : Po :=
  if s.saw < s.n then { s with ans := ⟨4, 0, false, s.node⟩, st := .over }
  else { s with extra := if w64 (s.saw - s.n) < s.limit.tdiv 2 then w64 (s.saw - s.n) else s.limit.tdiv 2, st := .buy }
def Po.go (s : Po) (ws : List Int) : Po × List Int :=
  match s.st with
  | .look => ({ s with had := rd ws s.lease, st := if rd ws s.lease ≥ s.n then .spend else .price }, ws)
  | .spend => ({ s with st := if rd ws s.lease = s.had then .over else .look }, casW ws s.lease s.had (w64 (s.had - s.n)))
  | .price => ({ s with saw := rd ws s.avail }.priced, ws)
  | .buy => ({ s with st := if rd ws s.avail = s.saw then (if s.extra = 0 then .over else .room) else .price }, casW ws s.avail s.saw (w64 (w64 (s.saw - s.n) - s.extra)))
  | .room => ({ s with had := rd ws s.lease, st := if w64 (rd ws s.lease + s.extra) ≤ s.limit then .keep else .back }, ws)
  | .keep => ({ s with st := if rd ws s.lease = s.had then .over else .room }, casW ws s.lease s.had (w64 (s.had + s.extra)))
  | .back => ({ s with st := .over }, addW ws s.avail s.extra)
  | .over => (s, ws)
def Po.done (s : Po) : Bool := decide (s.st = .over)
def Po.stepX (s : Po) (ws : List Int) : Po × List Int := s.go ws
def Po.Safe (s : Po) (ws : List Int) : Prop := s.avail < ws.length ∧ s.lease < ws.length
def Po.mk' (c : Cf) (node n stripe : Int) : Po := ⟨(c.availAt node).toNat, (c.leaseAt node stripe).toNat, node, n, c.lease, .look, 0, 0, 0, .zero⟩
/-! ### A ticket is claimed -/
structure Cm where
  c : Cf
  left : List Int
  seen : Bool
  saw : Int
  set : Int
  fin : Bool
  ans : Ans
def Cm.next (s : Cm) : Cm := if s.left.tail.isEmpty then { s with left := s.left.tail, seen := false, ans := ⟨3, 0, false, 0⟩, fin := true } else { s with left := s.left.tail, seen := false }
def Cm.at_ (s : Cm) : Nat := (s.c.ticketAt (s.left.headD 0)).toNat
def Cm.go (s : Cm) (ws : List Int) : Cm × List Int :=
  if s.seen then
    (if rd ws s.at_ = s.saw then { s with ans := ⟨0, s.left.headD 0, false, 0⟩, set := (slTurn s.saw 1).1, fin := true } else s.next, casW ws s.at_ s.saw (slTurn s.saw 1).1)
  else (if slState (rd ws s.at_) ≠ 0 then { s with saw := rd ws s.at_, seen := true }.next else { s with saw := rd ws s.at_, seen := true }, ws)
def Cm.stepX (s : Cm) (ws : List Int) : Cm × List Int := if s.fin then (s, ws) else s.go ws
def Cm.Safe (s : Cm) (ws : List Int) : Prop := s.fin = false → s.left ≠ [] ∧ ∀ k ∈ s.left, 0 ≤ k ∧ k < s.c.tickets ∧ (s.c.ticketAt k).toNat < ws.length
def fromL (start : Int) (many : Int) : List Int := (List.range many.toNat).map fun (j : Nat) => (w64 (start + j)).tmod many
def Cm.mk' (c : Cf) (start : Int) : Cm := ⟨c, fromL start c.tickets, false, 0, 0, false, .zero⟩
/-! ### An admission -/
inductive Part where
  | claim | ask (v : Int) | store (at_ : Nat) (x : Int) | add (v : Int) | refund (v : Int)
inductive Im where
  | cm | po (s : Po) | st (at_ : Nat) (x : Int) (done : Bool) | ad (s : Ad) | sh (s : Sh)
structure Am where
  c : Cf
  node : Int
  n : Int
  thread : Int
  cm : Cm
  had : List Int
  parts : List Part
  now : Option Im
  out : Ans
def Am.make (s : Am) : Part → Im
  | .claim => .cm
  | .ask v => .po (Po.mk' s.c v s.n (s.thread.tmod s.c.stripes))
  | .store a x => .st a x false
  | .add v => .ad (Ad.mk' (s.c.counterAt v).toNat s.c.stripes s.c.gate s.n s.thread)
  | .refund v => .sh (Sh.mk' .refund s.c v s.n)
def Am.inner (s : Am) (m : Im) (ws : List Int) : Am × Im × List Int :=
  match m with
  | .cm => ({ s with cm := (s.cm.stepX ws).1 }, .cm, (s.cm.stepX ws).2)
  | .po p => (s, .po (p.stepX ws).1, (p.stepX ws).2)
  | .st a x d => (s, .st a x true, if d then ws else ws.set a x)
  | .ad p => (s, .ad (p.stepX ws).1, (p.stepX ws).2)
  | .sh p => (s, .sh (p.stepX ws).1, (p.stepX ws).2)
def Am.imDone (s : Am) : Im → Bool
  | .cm => s.cm.fin
  | .po p => p.done
  | .st _ _ d => d
  | .ad p => p.done
  | .sh p => p.done
def Am.imAns (s : Am) : Im → Ans
  | .cm => s.cm.ans
  | .po p => p.ans
  | .st _ _ _ => .zero
  | .ad _ => .zero
  | .sh p => p.ans
/-- The word with the state live, of a ticket that was claimed. -/
def Am.turned (s : Am) : Int := (slTurn s.cm.set 2).1
def hdOf (ticket w : Int) : Int × Bool :=
  if ticket < 0 ∨ hdT (w64 (w64 (pkVersion w * 16) + ticket)) ≠ ticket ∨ hdV (w64 (w64 (pkVersion w * 16) + ticket)) ≠ pkVersion w then (0, false) else (w64 (w64 (pkVersion w * 16) + ticket), true)
def Am.then_ (s : Am) (p : Part) (a : Ans) : Am :=
  match p with
  | .claim =>
    if a.err ≠ 0 then { s with out := a }
    else { s with parts := s.parts ++ ((s.c.path s.node).map .ask ++ ([.store (s.c.ticketAt a.n + 1).toNat (slBody s.node s.n).1, .store (s.c.ticketAt a.n).toNat s.turned] ++ (s.c.path s.node).map .add)), out := { s.out with n := (hdOf a.n s.turned).1 } }
  | .ask v =>
    if a.err = 0 then { s with had := s.had ++ [v] }
    else { s with out := a, parts := s.had.reverse.map .refund ++ [.store (s.c.ticketAt s.cm.ans.n).toNat (slTurn s.cm.set 0).1] }
  | _ => s
def Am.stepX (s : Am) (ws : List Int) : Am × List Int :=
  match s.parts with
  | [] => (s, ws)
  | p :: rest =>
    let r := s.inner (s.now.getD (s.make p)) ws
    if r.1.imDone r.2.1 then ({ { r.1 with parts := rest }.then_ p (r.1.imAns r.2.1) with now := none }, r.2.2)
    else ({ r.1 with now := some r.2.1 }, r.2.2)
def Am.done (s : Am) : Bool := s.parts.isEmpty
def Am.ans (s : Am) : Ans := if s.parts.isEmpty then s.out else .zero
def Am.mk' (c : Cf) (node n thread : Int) : Am := ⟨c, node, n, thread, Cm.mk' c thread, [], [.claim], none, .zero⟩
/-! ### A release -/
inductive Wk where
  | look | take | read | refund (v : Int) (m : Option Sh) | add (v : Int) (m : Option Ad) | letf
structure Rm where
  c : Cf
  word : Nat
  version : Int
  thread : Int
  saw : Int
  n : Int
  left : List Wk
  out : Ans
  ans : Ans
def Rm.refuse (s : Rm) : Rm := { s with out := ⟨5, 0, false, 0⟩, left := s.left.take 1 }
def Rm.readX (s : Rm) (v n : Int) : Rm :=
  { s with n := n, out := ⟨0, n, false, v⟩, left := s.left ++ ((s.c.path v).map (fun u => Wk.refund u none) ++ ((s.c.path v).map (fun u => Wk.add u none) ++ [.letf])) }
/-- The head of the work; true: it is at its end. -/
def Rm.head (s : Rm) (ws : List Int) : Rm × List Int × Bool :=
  match s.left with
  | [] => (s, ws, false)
  | .look :: _ => (if pkVersion (rd ws s.word) ≠ s.version ∨ slState (rd ws s.word) ≠ 2 then { s with saw := rd ws s.word }.refuse else { s with saw := rd ws s.word }, ws, true)
  | .take :: _ => (if rd ws s.word = s.saw then { s with saw := (slTurn s.saw 3).1 } else s.refuse, casW ws s.word s.saw (slTurn s.saw 3).1, true)
  | .read :: _ => (s.readX (slOf (rd ws (s.word + 1))).1 (slOf (rd ws (s.word + 1))).2.1, ws, true)
  | .refund v m :: rest =>
    let r := (m.getD (Sh.mk' .refund s.c v s.n)).stepX ws
    ({ s with left := .refund v (some r.1) :: rest }, r.2, r.1.done)
  | .add v m :: rest =>
    let r := (m.getD (Ad.mk' (s.c.counterAt v).toNat s.c.stripes s.c.gate (w64 (0 - s.n)) s.thread)).stepX ws
    ({ s with left := .add v (some r.1) :: rest }, r.2, r.1.done)
  | .letf :: _ => (s, ws.set s.word (slTurn s.saw 0).1, true)
def Rm.stepX (s : Rm) (ws : List Int) : Rm × List Int :=
  match s.left with
  | [] => ({ s with ans := s.out }, ws)
  | _ =>
    let r := s.head ws
    let s1 := if r.2.2 then { r.1 with left := r.1.left.tail } else r.1
    (if s1.left.isEmpty then { s1 with ans := s1.out } else s1, r.2.1)
def Rm.done (s : Rm) : Bool := s.left.isEmpty
def Rm.mk' (c : Cf) (handle thread : Int) : Rm :=
  ⟨c, (c.ticketAt (slNamed handle c.tickets).1).toNat, (slNamed handle c.tickets).2.1, thread, 0, 0, [.look, .take, .read], .zero, .zero⟩
/-! ### A count -/
structure Ct where
  base : Nat
  stripes : Nat
  left : Int
  got : List Int
  fin : Bool
  ans : Ans
def Ct.order (s : Ct) : List Nat := [s.base + 1, s.base + 2, s.base] ++ ((List.range s.stripes).map (fun i => s.base + (4 + i)) ++ ([s.base + 1] ++ (List.range s.stripes).map (fun i => s.base + (4 + i))))
def pad8 (l : List Int) : List Int := l.take 8 ++ List.replicate (8 - l.length) 0
def Ct.one (s : Ct) : List Int := pad8 ((s.got.drop 3).take s.stripes)
def Ct.two (s : Ct) : List Int := pad8 (s.got.drop (4 + s.stripes))
def Ct.sum (s : Ct) : Int := s.one.foldl (fun a w => w64 (a + pkValue w)) (rd s.got 2)
def Ct.closed (s : Ct) : Ct :=
  if rd s.got 0 = rd s.got 1 ∧ rd s.got 0 = rd s.got (3 + s.stripes) ∧ s.one = s.two then { s with left := w64 (s.left - 1), ans := ⟨0, s.sum, true, 0⟩, fin := true }
  else if w64 (s.left - 1) = 0 then { s with left := w64 (s.left - 1), ans := ⟨0, rd s.got 2, false, 0⟩, fin := true }
  else { s with left := w64 (s.left - 1), got := [] }
def Ct.stepX (s : Ct) (ws : List Int) : Ct × List Int :=
  if s.fin then (s, ws) else
  let s1 : Ct := { s with got := s.got ++ [rd ws (s.order.getD s.got.length 0)] }
  (if s1.got.length = 4 + 2 * s.stripes then s1.closed else s1, ws)
def Ct.Safe (s : Ct) (ws : List Int) : Prop := s.base + 4 + s.stripes ≤ ws.length ∧ s.stripes ≤ 8 ∧ (s.fin = false → s.got.length < 4 + 2 * s.stripes)
def Ct.mk' (base stripes : Nat) (retry : Int) : Ct := ⟨base, stripes, retry, [], false, .zero⟩
end Go.BL
namespace Go.BL
/-! ### All machines -/
inductive Mc where
  | sh (s : Sh)
  | pk (s : Pk)
  | ct (s : Ct)
  | am (s : Am)
  | rm (s : Rm)
def Mc.ty : Mc → TypeId
  | .sh _ => 240
  | .pk _ => 242
  | .ct _ => 242
  | .am _ => 236
  | .rm _ => 238
def Mc.stepF : Mc → FuncId
  | .sh _ => 367
  | .pk _ => 369
  | .ct _ => 369
  | .am _ => 363
  | .rm _ => 365
def Mc.ansF : Mc → FuncId
  | .sh _ => 366
  | .pk _ => 368
  | .ct _ => 368
  | .am _ => 362
  | .rm _ => 364
def Mc.done : Mc → Bool
  | .sh s => s.done
  | .pk s => s.fin
  | .ct s => s.fin
  | .am s => s.done
  | .rm s => s.done
def Mc.ans : Mc → Ans
  | .sh s => s.ans
  | .pk s => s.ans
  | .ct s => s.ans
  | .am s => s.ans
  | .rm s => s.ans
def Mc.stepX (m : Mc) (ws : List Int) : Mc × List Int :=
  match m with
  | .sh s => (.sh (s.stepX ws).1, (s.stepX ws).2)
  | .pk s => (.pk (s.stepX ws).1, (s.stepX ws).2)
  | .ct s => (.ct (s.stepX ws).1, (s.stepX ws).2)
  | .am s => (.am (s.stepX ws).1, (s.stepX ws).2)
  | .rm s => (.rm (s.stepX ws).1, (s.stepX ws).2)
def Cf.newMc (c : Cf) (t : Int) (x : Cl) : Mc :=
  if x.kind = 1 then .am (Am.mk' c x.node x.n t) else if x.kind = 2 then .rm (Rm.mk' c x.n t) else if x.kind = 3 then .sh (Sh.mk' .raise c x.node x.n) else if x.kind = 4 then .sh (Sh.mk' .lower c x.node x.n)
  else if x.kind = 5 then .ct (Ct.mk' (c.counterAt x.node).toNat c.stripes.toNat c.retry) else .pk ⟨(c.counterAt x.node).toNat, false, .zero⟩
end Go.BL
namespace Go.BL
/-! ### Threads, events, the scheduler -/
structure Th where
  left : List Cl
  what : Cl
  now : Option Mc
structure Ev where
  pos : Nat
  thread : Nat
  kind : Int
  call : Cl
  ans : Ans
structure Sd where
  c : Cf
  ws : List Int
  n : Nat
  ths : List Th
  evs : List Ev
abbrev evv (e : Ev) : List Value := [.int .i64 e.pos, .int .i64 e.thread, .int .i64 e.kind] ++ clv e.call ++ ansv e.ans
def evsv (l : List Ev) : List Value := (l.map evv).flatten
def clsv (l : List Cl) : List Value := (l.map clv).flatten
theorem evsv_length (l : List Ev) : (evsv l).length = l.length * 10 := by
  unfold evsv; induction l with
  | nil => rfl
  | cons e l ih => simp only [List.map_cons, List.flatten_cons, List.length_append, ih, List.length_cons]; simp; omega
theorem clsv_length (l : List Cl) : (clsv l).length = l.length * 3 := by
  unfold clsv; induction l with
  | nil => rfl
  | cons e l ih => simp only [List.map_cons, List.flatten_cons, List.length_append, ih, List.length_cons]; simp; omega
def Th.idle (t : Th) : Bool := t.now.isNone && t.left.isEmpty
def Cl.zero : Cl := ⟨0, 0, 0⟩
def Sd.new (c : Cf) (calls : List (List Cl)) : Sd := ⟨c, c.freshW, 0, calls.map fun l => ⟨l, .zero, none⟩, []⟩
def Sd.busy (s : Sd) (i : Int) : Bool := decide (0 ≤ i) && decide (i < s.ths.length) && ((s.ths[i.toNat]?).bind (·.now)).isSome
def Sd.idle (s : Sd) : Bool := s.ths.all (·.idle)
def Sd.tell (s : Sd) (i : Nat) (kind : Int) (what : Cl) (a : Ans) : Sd := { s with evs := s.evs ++ [⟨s.n, i, kind, what, a⟩] }
/-- A step of the thread's machine. -/
def Sd.stepT (s : Sd) (i : Nat) (t : Th) (m : Mc) : Sd :=
  let r := m.stepX s.ws
  let s1 : Sd := { s with ws := r.2, n := if m.done then s.n else s.n + 1, ths := s.ths.set i { t with now := some r.1 } }
  if r.1.done then { s1.tell i 2 t.what r.1.ans with ths := s.ths.set i { t with now := none } } else s1
def Sd.pick (s : Sd) (i : Int) : Sd × Bool :=
  if i < 0 then (s, false) else
  match s.ths[i.toNat]? with
  | none => (s, false)
  | some t =>
    if t.idle then (s, false) else
    match t.now with
    | some m => (s.stepT i.toNat t m, true)
    | none =>
      match t.left with
      | [] => (s, false)
      | x :: rest =>
        let t1 : Th := ⟨rest, x, none⟩
        let s1 : Sd := { s with ths := s.ths.set i.toNat t1 }.tell i.toNat 1 x .zero
        if s.c.check x = 0 then ({ s1 with ths := s.ths.set i.toNat { t1 with now := some (s.c.newMc i x) } }.stepT i.toNat t1 (s.c.newMc i x), true)
        else (s1.tell i.toNat 2 x ⟨s.c.check x, 0, false, 0⟩, true)
end Go.BL
namespace Go.BL
def Cf.bound (c : Cf) : Int := 2 * c.tickets + 24 * c.depth + 8 + c.retry * (4 + 2 * c.stripes)
def Cf.window (c : Cf) : Int := 8 * c.threads * c.threads * c.bound
theorem Cf.Ok.countB {c : Cf} (o : c.Ok) : 6 ≤ c.retry * (4 + 2 * c.stripes) ∧ c.retry * (4 + 2 * c.stripes) ≤ 160 := by
  have h := o.retry
  rcases o.stripes with e | e | e | e <;> rw [e] <;> omega
theorem Cf.Ok.bound {c : Cf} (o : c.Ok) : 16 ≤ c.bound ∧ c.bound ≤ 512 := by
  have h1 := o.countB
  have h2 := o.tickets
  have h3 : 0 ≤ c.depth ∧ c.depth ≤ 13 := c.depth_le c.parents.length
  unfold Cf.bound
  omega
theorem Cf.Ok.sqT {c : Cf} (o : c.Ok) : 8 ≤ 8 * c.threads * c.threads ∧ 8 * c.threads * c.threads ≤ 512 := by
  have h := o.threads
  have : c.threads = 1 ∨ c.threads = 2 ∨ c.threads = 3 ∨ c.threads = 4 ∨ c.threads = 5 ∨ c.threads = 6 ∨ c.threads = 7 ∨ c.threads = 8 := by omega
  rcases this with e | e | e | e | e | e | e | e <;> rw [e] <;> omega
theorem Cf.Ok.window {c : Cf} (o : c.Ok) : 0 ≤ c.window ∧ c.window ≤ 262144 := by
  have h1 := o.sqT
  have h2 := o.bound
  unfold Cf.window
  have h3 := Int.mul_le_mul h1.2 h2.2 (by omega) (by omega)
  have h4 := Int.mul_nonneg (show 0 ≤ 8 * c.threads * c.threads by omega) (show 0 ≤ c.bound by omega)
  exact ⟨h4, by omega⟩
end Go.BL
namespace Go.BL
theorem Mc.stepX_ty (m : Mc) (ws : List Int) : (m.stepX ws).1.ty = m.ty := by cases m <;> rfl
theorem Sd.pick_some {s : Sd} {i : Nat} {t : Th} {m : Mc} (ht : s.ths[i]? = some t) (hm : t.now = some m) : s.pick i = (s.stepT i t m, true) := by
  have h0 : ¬ (i : Int) < 0 := by omega
  have hid : t.idle = false := by simp [Th.idle, hm]
  simp only [Sd.pick, if_neg h0, Int.toNat_natCast, ht, hid, hm]
  rfl
theorem Sd.pick_idle {s : Sd} {i : Nat} {t : Th} (ht : s.ths[i]? = some t) (hid : t.idle = true) : s.pick i = (s, false) := by
  have h0 : ¬ (i : Int) < 0 := by omega
  simp only [Sd.pick, if_neg h0, Int.toNat_natCast, ht, hid, if_true]
theorem Sd.pick_out {s : Sd} {i : Int} (hi : i < 0 ∨ (s.ths.length : Int) ≤ i) : s.pick i = (s, false) := by
  unfold Sd.pick
  by_cases h0 : i < 0
  · rw [if_pos h0]
  · rw [if_neg h0]
    have : s.ths[i.toNat]? = none := by rw [List.getElem?_eq_none_iff]; omega
    rw [this]
theorem Sd.pick_begin {s : Sd} {i : Nat} {x : Cl} {xs : List Cl} {w0 : Cl} (ht : s.ths[i]? = some ⟨x :: xs, w0, none⟩) : s.pick i =
    if s.c.check x = 0 then (({ { s with ths := s.ths.set i ⟨xs, x, none⟩ }.tell i 1 x .zero with ths := s.ths.set i ⟨xs, x, some (s.c.newMc i x)⟩ } : Sd).stepT i ⟨xs, x, some (s.c.newMc i x)⟩ (s.c.newMc i x), true)
    else (({ s with ths := s.ths.set i ⟨xs, x, none⟩ }.tell i 1 x .zero).tell i 2 x ⟨s.c.check x, 0, false, 0⟩, true) := by
  have h0 : ¬ (i : Int) < 0 := by omega
  simp only [Sd.pick, if_neg h0, Int.toNat_natCast, ht]
  rfl
end Go.BL
