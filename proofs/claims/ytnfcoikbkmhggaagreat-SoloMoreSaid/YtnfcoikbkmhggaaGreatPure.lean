/- The system as plain functions: settings, the layout of words, packed words, draws, tickets, paths. -/
import Derived.Test.YtnfcoikbkmhggaaGreatBase
set_option linter.all false
set_option linter.unusedVariables false
set_option linter.unusedSimpArgs false
namespace Go.BL

/-- A setting, and where its two rows lie. -/
structure Cf where
  threads : Int
  stripes : Int
  gate : Int
  lease : Int
  retry : Int
  tickets : Int
  parents : List Int
  limits : List Int
structure CA where
  pa : Option Addr
  pc : Nat
  la : Option Addr
  lc : Nat
abbrev cfv (c : Cf) (A : CA) : List Value :=
  [.int .i64 c.threads, .int .i64 c.stripes, .int .i64 c.gate, .int .i64 c.lease, .int .i64 c.retry, .int .i64 c.tickets, .slice A.pa c.parents.length A.pc, .slice A.la c.limits.length A.lc]
def RdI (F : Hp) (a : Option Addr) (xs : List Int) : Prop := RdSl F 1 a xs.length (ints xs)
structure RdC (F : Hp) (c : Cf) (A : CA) : Prop where
  p : RdI F A.pa c.parents
  l : RdI F A.la c.limits
theorem RdC.mono {F F' : Hp} {c : Cf} {A : CA} (hF : Hp.le F F') (R : RdC F c A) : RdC F' c A := ⟨R.p.mono hF, R.l.mono hF⟩
theorem RdI.mono {F F' : Hp} {a : Option Addr} {xs : List Int} (hF : Hp.le F F') (R : RdI F a xs) : RdI F' a xs := RdSl.mono hF R
theorem RdI.at {F : Hp} {a : Option Addr} {xs : List Int} (R : RdI F a xs) {i : Nat} {x : Int} (hx : xs[i]? = some x) :
    ∃ b off cs T fr, a = some ⟨b, off, none⟩ ∧ F b = some (.cells (List.toArray cs) T fr) ∧ cs[off + i]? = some (.int .i64 x) := by
  obtain ⟨q, x | ⟨b, off, T, fr, cxs, e, y, z, u⟩⟩ := R Hp.emp
  · have := List.length_eq_zero_iff.1 x; subst this; cases hx
  · refine ⟨b, off, cxs.toList, T, fr, e, ?_, ?_⟩
    · rcases y with y | y
      · cases y
      · simpa using y
    · have h1 : (cxs.extract off (off + xs.length * 1))[i]? = (ints xs).toArray[i]? := by rw [u]
      have hi := (List.getElem?_eq_some_iff.1 hx).1
      simp only [Array.getElem?_extract, List.getElem?_toArray, ints_get hx] at h1
      have h2 : off + i < cxs.size := by simp only [Nat.mul_one] at z; omega
      rw [if_pos (by omega)] at h1
      simpa [Array.getElem?_toList, hi] using h1

/-- A right setting. -/
structure Cf.Ok (c : Cf) : Prop where
  threads : 1 ≤ c.threads ∧ c.threads ≤ 8
  stripes : c.stripes = 1 ∨ c.stripes = 2 ∨ c.stripes = 4 ∨ c.stripes = 8
  gate : 1 ≤ c.gate ∧ c.gate ≤ 1048576
  lease : 0 ≤ c.lease ∧ c.lease ≤ 1048576
  retry : 1 ≤ c.retry ∧ c.retry ≤ 8
  tickets : 1 ≤ c.tickets ∧ c.tickets ≤ 16
  nodes : 1 ≤ c.parents.length ∧ c.parents.length ≤ 12
  limlen : c.limits.length = c.parents.length
  limits : ∀ v ∈ c.limits, 0 ≤ v ∧ v ≤ 1099511627776
  root : c.parents[0]? = some (-1)
  tree : ∀ (i : Nat) (p : Int), 0 < i → c.parents[i]? = some p → 0 ≤ p ∧ p < i

def Cf.each (c : Cf) : Int := 6 + 2 * c.stripes
def Cf.limitAt (c : Cf) (v : Int) : Int := v * c.each
def Cf.availAt (c : Cf) (v : Int) : Int := c.limitAt v + 1
def Cf.leaseAt (c : Cf) (v s : Int) : Int := c.limitAt v + 2 + s
def Cf.counterAt (c : Cf) (v : Int) : Int := c.leaseAt v c.stripes
def Cf.ticketAt (c : Cf) (k : Int) : Int := c.limitAt c.parents.length + 2 * k
def Cf.size (c : Cf) : Int := c.ticketAt c.tickets
theorem Cf.Ok.each {c : Cf} (o : c.Ok) : 8 ≤ c.each ∧ c.each ≤ 22 := by
  unfold Cf.each
  rcases o.stripes with h | h | h | h <;> rw [h] <;> omega
theorem Cf.Ok.limitAt {c : Cf} (o : c.Ok) {v : Int} (h0 : 0 ≤ v) (h1 : v ≤ 12) : 0 ≤ c.limitAt v ∧ c.limitAt v ≤ 264 := by
  unfold Cf.limitAt Cf.each
  rcases o.stripes with h | h | h | h <;> rw [h] <;> omega
theorem Cf.Ok.limitAt_succ {c : Cf} (v : Int) : c.limitAt (v + 1) = c.limitAt v + c.each := by
  unfold Cf.limitAt; rw [Int.add_mul, Int.one_mul]
/-- Node v's words lie ahead of the tickets'. -/
theorem Cf.Ok.limitAt_lt {c : Cf} (o : c.Ok) {v u : Int} (h1 : v < u) : c.limitAt v + c.each ≤ c.limitAt u := by
  unfold Cf.limitAt Cf.each
  rcases o.stripes with h | h | h | h <;> rw [h] <;> omega

end Go.BL
namespace Go.BL
/-! ### Packed words, draws, tickets -/
def w64 (n : Int) : Int := IntKind.i64.wrap n
def shr (k : IntKind) (a b : Int) : Int := a.fdiv (2 ^ min b.toNat k.bits)
def shl (k : IntKind) (a b : Int) : Int := k.wrap (a * 2 ^ min b.toNat k.bits)
def orB (k : IntKind) (a b : Int) : Int := k.wrap (BitVec.ofInt k.bits a ||| BitVec.ofInt k.bits b).toNat
def andB (k : IntKind) (a b : Int) : Int := k.wrap (BitVec.ofInt k.bits a &&& BitVec.ofInt k.bits b).toNat
def xorB (k : IntKind) (a b : Int) : Int := k.wrap (BitVec.ofInt k.bits a ^^^ BitVec.ofInt k.bits b).toNat
def pkVersion (w : Int) : Int := IntKind.i64.wrap (shr .u64 (IntKind.u64.wrap w) 32)
def pkValue (w : Int) : Int := IntKind.i64.wrap (IntKind.i32.wrap (IntKind.u32.wrap (IntKind.u64.wrap w)))
def pkFine (ver val : Int) : Bool := ver == IntKind.i64.wrap (IntKind.u32.wrap ver) && val == IntKind.i64.wrap (IntKind.i32.wrap val)
def pkWith (w on val : Int) : Int :=
  orB .u64 (shl .u64 (IntKind.u64.wrap (IntKind.u32.wrap (IntKind.u32.wrap (shr .u64 w 32) + on))) 32) (IntKind.u64.wrap (IntKind.u32.wrap (IntKind.i32.wrap val)))
def pkNext (w val : Int) : Int × Bool := if pkFine 0 val then (IntKind.i64.wrap (pkWith (IntKind.u64.wrap w) 1 val), true) else (0, false)
def slKnown (s : Int) : Bool := decide (0 ≤ s) && decide (s ≤ 3)
def slState (w : Int) : Int := if slKnown (pkValue w) then pkValue w else -1
def slTurn (w s : Int) : Int × Bool := if slKnown s then pkNext w s else (0, false)
def bdRight (node n : Int) : Bool := decide (0 ≤ node) && decide (node < 12) && decide (1 ≤ n) && decide (n ≤ 1048576)
def bdWord (node n : Int) : Int := orB .i64 (shl .i64 node 21) n
def slBody (node n : Int) : Int × Bool := if bdRight node n then (bdWord node n, true) else (0, false)
def slOf (w : Int) : Int × Int × Bool := if bdRight (shr .i64 w 21) (andB .i64 w 2097151) then (shr .i64 w 21, andB .i64 w 2097151, true) else (0, 0, false)
/-- The remainder and the quotient as Go takes them. -/
def hdT (n : Int) : Int := n.tmod 16
def hdV (n : Int) : Int := IntKind.i64.wrap (n.tdiv 16)
def slNamed (n tickets : Int) : Int × Int × Bool := if n < 0 ∨ hdT n ≥ tickets ∨ shr .i64 (hdV n) 32 ≠ 0 then (0, 0, false) else (hdT n, hdV n, true)
def drBegin (t : Int) : Int := IntKind.i64.wrap (IntKind.u32.wrap (IntKind.i64.wrap (IntKind.i64.wrap (t + 1) * 2654435761)))
end Go.BL
namespace Go.BL
/-! ### Paths -/
def pathN : Nat → List Int → Int → List Int
  | 0, _, _ => []
  | n + 1, ps, v => if v < 0 then [] else v :: pathN n ps (ps.getD v.toNat (-1))
def Cf.path (c : Cf) (v : Int) : List Int := if (c.parents.length : Int) ≤ v then [] else pathN 13 c.parents v
theorem pathN_step {xs ps : List Int} {i k : Nat} {u : Int} (h : xs.drop i = pathN k ps u) (hu : 0 ≤ u) (hk : u < k) : xs[i]? = some u ∧ i < xs.length ∧ xs.drop (i + 1) = pathN (k - 1) ps (ps.getD u.toNat (-1)) := by
  cases k with
  | zero => omega
  | succ k =>
    unfold pathN at h
    rw [if_neg (by omega)] at h
    have hi : i < xs.length := by
      apply Nat.lt_of_not_le
      intro q
      rw [List.drop_eq_nil_of_le q] at h
      cases h
    rw [List.drop_eq_getElem_cons hi] at h
    injection h with h1 h2
    exact ⟨by rw [List.getElem?_eq_getElem hi, h1], hi, h2⟩
theorem pathN_end {xs ps : List Int} {i k : Nat} {u : Int} (h : xs.drop i = pathN k ps u) (hu : u < 0) (hi : i ≤ xs.length) : i = xs.length := by
  have : pathN k ps u = [] := by
    cases k with
    | zero => rfl
    | succ k => unfold pathN; rw [if_pos hu]
  rw [this] at h
  have := List.drop_eq_nil_iff.1 h
  omega
theorem Cf.Ok.parent {c : Cf} (o : c.Ok) {u : Int} (h0 : 0 ≤ u) (h1 : u < c.parents.length) : ∃ p, c.parents[u.toNat]? = some p ∧ -1 ≤ p ∧ p < u := by
  obtain ⟨n, rfl⟩ := Int.eq_ofNat_of_zero_le h0
  have hn : n < c.parents.length := by omega
  refine ⟨c.parents[n], by simp [hn], ?_⟩
  have hx : c.parents[n]? = some c.parents[n] := List.getElem?_eq_getElem hn
  by_cases e : n = 0
  · subst e
    have := o.root
    rw [hx] at this
    injection this with this
    rw [this]; omega
  · have := o.tree n _ (by omega) hx
    omega
theorem pathN_length : ∀ (k : Nat) (ps : List Int) (v : Int), (pathN k ps v).length ≤ k
  | 0, _, _ => by simp [pathN]
  | k + 1, ps, v => by
    unfold pathN
    split
    · simp
    · simp only [List.length_cons]
      have := pathN_length k ps (ps.getD v.toNat (-1))
      omega
theorem Cf.path_length (c : Cf) (v : Int) : (c.path v).length ≤ 13 := by
  unfold Cf.path
  split
  · simp
  · exact pathN_length 13 _ _
def Cf.leaf (c : Cf) (v : Int) : Bool := decide (0 ≤ v) && decide (v < c.parents.length) && !decide (v ∈ c.parents)
def Cf.under (c : Cf) (a b : Int) : Bool := decide (b ∈ c.path a)
def Cf.depth (c : Cf) : Int := (List.range c.parents.length).foldl (fun (d : Int) (v : Nat) => if ((c.path (v : Int)).length : Int) > d then ((c.path (v : Int)).length : Int) else d) 0
theorem Cf.depth_le (c : Cf) : ∀ n : Nat, 0 ≤ (List.range n).foldl (fun (d : Int) (v : Nat) => if ((c.path (v : Int)).length : Int) > d then ((c.path (v : Int)).length : Int) else d) 0 ∧
    (List.range n).foldl (fun (d : Int) (v : Nat) => if ((c.path (v : Int)).length : Int) > d then ((c.path (v : Int)).length : Int) else d) 0 ≤ 13
  | 0 => by simp
  | n + 1 => by
    rw [List.range_succ, List.foldl_append]
    have h := Cf.depth_le c n
    have h2 := c.path_length n
    simp only [List.foldl_cons, List.foldl_nil]
    split <;> omega
/-- What yield leaves. -/
def yB (A B : HProp) : Bool → HProp
  | true => A
  | false => B
end Go.BL
namespace Go.BL
/-! ### The words at the beginning -/
def Cf.layW (c : Cf) (ws : List Int) (v : Nat) : List Int :=
  ((ws.set (c.limitAt v).toNat (c.limits.getD v 0)).set (c.availAt v).toNat (c.limits.getD v 0)).set (c.counterAt v + 3).toNat 1
def Cf.freshN (c : Cf) (n : Nat) : List Int := (List.range n).foldl c.layW (List.replicate c.size.toNat 0)
def Cf.freshW (c : Cf) : List Int := c.freshN c.parents.length
theorem Cf.layW_length (c : Cf) (ws : List Int) (v : Nat) : (c.layW ws v).length = ws.length := by simp [Cf.layW]
theorem Cf.freshN_succ (c : Cf) (n : Nat) : c.freshN (n + 1) = c.layW (c.freshN n) n := by
  unfold Cf.freshN; rw [List.range_succ, List.foldl_append]; rfl
theorem Cf.freshN_length (c : Cf) : ∀ n, (c.freshN n).length = c.size.toNat
  | 0 => by simp [Cf.freshN]
  | n + 1 => by rw [c.freshN_succ, c.layW_length, c.freshN_length n]
theorem Cf.Ok.size {c : Cf} (o : c.Ok) : 10 ≤ c.size ∧ c.size ≤ 296 ∧ c.size = c.limitAt c.parents.length + 2 * c.tickets := by
  have h1 := o.limitAt (v := c.parents.length) (by omega) (by have := o.nodes; omega)
  have h2 := o.limitAt_lt (v := 0) (u := c.parents.length) (by have := o.nodes; omega)
  have h3 := o.each
  have h4 : c.limitAt 0 = 0 := by simp [Cf.limitAt]
  have h5 := o.tickets
  unfold Cf.size Cf.ticketAt
  omega
theorem Cf.Ok.node_lt {c : Cf} (o : c.Ok) {v : Int} (h0 : 0 ≤ v) (hv : v < c.parents.length) : 0 ≤ c.limitAt v ∧ c.limitAt v + 6 + 2 * c.stripes ≤ c.limitAt c.parents.length ∧ c.limitAt c.parents.length ≤ c.size ∧ c.limitAt v ≤ 264 := by
  have h1 := o.limitAt_lt hv
  have h2 := o.size
  have h3 := o.tickets
  have h4 := o.limitAt h0 (by have := o.nodes; omega)
  have h5 : c.each = 6 + 2 * c.stripes := rfl
  omega
end Go.BL
namespace Go.BL
/-! ### Answers; the machine of a shift -/
structure Ans where
  err : Int
  n : Int
  exact : Bool
  node : Int
  deriving DecidableEq
def Ans.zero : Ans := ⟨0, 0, false, 0⟩
abbrev ansv (a : Ans) : List Value := [.int .i64 a.err, .int .i64 a.n, .bool a.exact, .int .i64 a.node]
def rd (ws : List Int) (i : Nat) : Int := ws.getD i 0
theorem rd_some {ws : List Int} {i : Nat} (h : i < ws.length) : ws[i]? = some (rd ws i) := by simp [rd, List.getD_eq_getElem?_getD, h]
def addW (ws : List Int) (i : Nat) (d : Int) : List Int := ws.set i (w64 (rd ws i + d))
def casW (ws : List Int) (i : Nat) (u y : Int) : List Int := if rd ws i = u then ws.set i y else ws
@[simp] theorem addW_length (ws : List Int) (i : Nat) (d : Int) : (addW ws i d).length = ws.length := by simp [addW]
@[simp] theorem casW_length (ws : List Int) (i : Nat) (u y : Int) : (casW ws i u y).length = ws.length := by unfold casW; split <;> simp
inductive ShK where
  | refund | raise | lower
  deriving DecidableEq
structure Sh where
  k : ShK
  limit : Nat
  avail : Nat
  node : Int
  n : Int
  saw : Int
  pos : Nat
  ans : Ans
def ShK.len : ShK → Nat
  | .refund => 1
  | _ => 3
def Sh.done (s : Sh) : Bool := decide (s.k.len ≤ s.pos)
/-- One step of a shift that is not done. -/
def Sh.go (s : Sh) (ws : List Int) : Sh × List Int :=
  match s.k, s.pos with
  | .refund, 0 => ({ s with pos := 9 }, addW ws s.avail s.n)
  | .raise, 0 => ({ s with saw := rd ws s.limit, pos := if rd ws s.limit > w64 (1099511627776 - s.n) then 9 else 1, ans := if rd ws s.limit > w64 (1099511627776 - s.n) then ⟨6, 0, false, 0⟩ else s.ans }, ws)
  | .raise, 1 => ({ s with pos := if rd ws s.limit = s.saw then 2 else 0 }, casW ws s.limit s.saw (w64 (s.saw + s.n)))
  | .raise, 2 => ({ s with pos := 11 }, addW ws s.avail s.n)
  | .lower, 0 => ({ s with saw := rd ws s.avail, pos := if rd ws s.avail < s.n then 9 else 1, ans := if rd ws s.avail < s.n then ⟨4, 0, false, s.node⟩ else s.ans }, ws)
  | .lower, 1 => ({ s with pos := if rd ws s.avail = s.saw then 2 else 0 }, casW ws s.avail s.saw (w64 (s.saw - s.n)))
  | .lower, 2 => ({ s with pos := 11 }, addW ws s.limit (w64 (0 - s.n)))
  | _, _ => (s, ws)
def Sh.stepX (s : Sh) (ws : List Int) : Sh × List Int := if s.done then (s, ws) else s.go ws
def Sh.mk' (k : ShK) (c : Cf) (node n : Int) : Sh := ⟨k, (c.limitAt node).toNat, (c.availAt node).toNat, node, n, 0, 0, .zero⟩
end Go.BL
namespace Go.BL
/-! ### The machine of a peek -/
structure Pk where
  base : Nat
  fin : Bool
  ans : Ans
def Pk.stepX (s : Pk) (ws : List Int) : Pk × List Int := if s.fin then (s, ws) else ({ s with fin := true, ans := ⟨0, rd ws s.base, false, 0⟩ }, ws)
end Go.BL
namespace Go.BL
/-! ### Calls and their checks -/
structure Cl where
  kind : Int
  node : Int
  n : Int
  deriving DecidableEq
abbrev clv (x : Cl) : List Value := [.int .i64 x.kind, .int .i64 x.node, .int .i64 x.n]
def Cf.ckNode (c : Cf) (x : Cl) : Int := if x.node < 0 ∨ x.node ≥ c.parents.length then 2 else 0
def ckAmount (e : Int) (x : Cl) : Int := if e = 0 ∧ (x.n < 1 ∨ x.n > 1048576) then 1 else e
def Cf.ckLeaf (c : Cf) (x : Cl) : Int := ckAmount (if c.leaf x.node then 0 else 2) x
def Cf.ckMoved (c : Cf) (x : Cl) : Int := ckAmount (c.ckNode x) x
def Cf.ckNamed (c : Cf) (x : Cl) : Int := if (slNamed x.n c.tickets).2.2 then 0 else 5
def Cf.check (c : Cf) (x : Cl) : Int :=
  if x.kind = 1 then c.ckLeaf x else if x.kind = 2 then c.ckNamed x else if x.kind = 3 then c.ckMoved x else if x.kind = 4 then c.ckMoved x else if x.kind = 5 then c.ckNode x else if x.kind = 6 then c.ckNode x else 1
end Go.BL
