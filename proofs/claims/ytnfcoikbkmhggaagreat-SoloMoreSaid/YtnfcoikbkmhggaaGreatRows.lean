/-
  NARROWER THAN 'FOR EVERY INPUT', by the rows' own cells (each row's printed sentence says how): CrewTells: calm · CrewAgain: calm · CrewEnds: calm · CrewQuiet: calm · CrewOdd: calm · CrewAlike: calm.
  DERIVED. THE GIVEN ROWS OF THIS SEAT. 18 by the template 'for every input the law returns true; each argument reads behind the call as it read before'; 0 by the template 'total and deterministic' (their statements: YtnfcoikbkmhggaaGreatTotals.lean).
  GIVEN WITH THE SEED: the statements are not yours to turn. If you find one false, say at which input.
  Laid BY PROGRAM, IN A SANDBOX (cutbox-rows.mjs): the forced cells as the released guide's own fill.sh prints them over the translation 8fc2a0c714c68d0c… (all of the seat's roots in one cut). By AI agents, Wed Nov 11 2026. No macro, syntax, notation, axiom, sorry.
-/
import Derived.Test.YtnfcoikbkmhggaaGreatChecked
import GoSem.Claim
import GoSem.ClaimJoined
import GoSem.ClaimMapViews
import Derived.JoinedTies
import Derived.KernelRfl
namespace Go.Proofs.YtnfcoikbkmhggaaGreat
/- THE CELL 'sum', in the pinned program and in every row, IS THE sha256 OF THE DUMP (.gsa) THAT YtnfcoikbkmhggaaGreatProg.lean LOADS. Nothing in Lean hashes anything: it is a label: what it is worth is what the hold of that sum in a sandbox is worth. -/
noncomputable def Tryz.pinned : Pinned := { name := "ytnfcoikbkmhggaagreat", sum := "8fc2a0c714c68d0c2f6471b4cb6e85d4cf001145433f940a3c5eb36166f165ff", checked := Tryz.checked }
namespace Rows
def none {H : Type} : Left H := { results := [], args := [] }

/-- 'breadlinelaw21.SoloMore': WHATEVER THE INPUT: true; the input reads as it did. -/
def soloMoreSpec : ChangeSpec := { name := "soloMore", fn := fun _ => fun
  | [d1, d2] => { results := [.lit (.bool true)], args := [d1, d2] }
  | _ => none }
def soloMoreRow : OpenClaim := { program := "ytnfcoikbkmhggaagreat", sum := "8fc2a0c714c68d0c2f6471b4cb6e85d4cf001145433f940a3c5eb36166f165ff", func := "breadline/breadlinelaw21.SoloMore", spec := "soloMore", unfollowed := true, recurses := true, leaving := true, apart := false }
def SoloMoreSaid : Prop := soloMoreRow.holds Tryz.pinned (OpenSpec.ofChange soloMoreSpec)

/-- ITS FALSE NEIGHBOUR: 'it returns false'. Refute it at one input. -/
def soloMoreWrong : ChangeSpec := { name := "soloMore", fn := fun _ => fun
  | [d1, d2] => { results := [.lit (.bool false)], args := [d1, d2] }
  | _ => none }
def SoloMoreWrongFalsely : Prop := soloMoreRow.holds Tryz.pinned (OpenSpec.ofChange soloMoreWrong)

/-- 'breadlinelaw21.SoloAlone': WHATEVER THE INPUT: true; the input reads as it did. -/
def soloAloneSpec : ChangeSpec := { name := "soloAlone", fn := fun _ => fun
  | [d] => { results := [.lit (.bool true)], args := [d] }
  | _ => none }
def soloAloneRow : OpenClaim := { program := "ytnfcoikbkmhggaagreat", sum := "8fc2a0c714c68d0c2f6471b4cb6e85d4cf001145433f940a3c5eb36166f165ff", func := "breadline/breadlinelaw21.SoloAlone", spec := "soloAlone", unfollowed := true, recurses := true, leaving := true, apart := false }
def SoloAloneSaid : Prop := soloAloneRow.holds Tryz.pinned (OpenSpec.ofChange soloAloneSpec)

/-- ITS FALSE NEIGHBOUR: 'it returns false'. Refute it at one input. -/
def soloAloneWrong : ChangeSpec := { name := "soloAlone", fn := fun _ => fun
  | [d] => { results := [.lit (.bool false)], args := [d] }
  | _ => none }
def SoloAloneWrongFalsely : Prop := soloAloneRow.holds Tryz.pinned (OpenSpec.ofChange soloAloneWrong)

/-- 'breadlinelaw21.SoloEach': WHATEVER THE INPUT: true; the input reads as it did. -/
def soloEachSpec : ChangeSpec := { name := "soloEach", fn := fun _ => fun
  | [d] => { results := [.lit (.bool true)], args := [d] }
  | _ => none }
def soloEachRow : OpenClaim := { program := "ytnfcoikbkmhggaagreat", sum := "8fc2a0c714c68d0c2f6471b4cb6e85d4cf001145433f940a3c5eb36166f165ff", func := "breadline/breadlinelaw21.SoloEach", spec := "soloEach", unfollowed := true, recurses := true, leaving := true, apart := false }
def SoloEachSaid : Prop := soloEachRow.holds Tryz.pinned (OpenSpec.ofChange soloEachSpec)

/-- ITS FALSE NEIGHBOUR: 'it returns false'. Refute it at one input. -/
def soloEachWrong : ChangeSpec := { name := "soloEach", fn := fun _ => fun
  | [d] => { results := [.lit (.bool false)], args := [d] }
  | _ => none }
def SoloEachWrongFalsely : Prop := soloEachRow.holds Tryz.pinned (OpenSpec.ofChange soloEachWrong)

/-- 'breadlinelaw21.SoloSome': WHATEVER THE INPUT: true; the input reads as it did. -/
def soloSomeSpec : ChangeSpec := { name := "soloSome", fn := fun _ => fun
  | [d1, d2] => { results := [.lit (.bool true)], args := [d1, d2] }
  | _ => none }
def soloSomeRow : OpenClaim := { program := "ytnfcoikbkmhggaagreat", sum := "8fc2a0c714c68d0c2f6471b4cb6e85d4cf001145433f940a3c5eb36166f165ff", func := "breadline/breadlinelaw21.SoloSome", spec := "soloSome", unfollowed := true, recurses := true, leaving := true, apart := false }
def SoloSomeSaid : Prop := soloSomeRow.holds Tryz.pinned (OpenSpec.ofChange soloSomeSpec)

/-- ITS FALSE NEIGHBOUR: 'it returns false'. Refute it at one input. -/
def soloSomeWrong : ChangeSpec := { name := "soloSome", fn := fun _ => fun
  | [d1, d2] => { results := [.lit (.bool false)], args := [d1, d2] }
  | _ => none }
def SoloSomeWrongFalsely : Prop := soloSomeRow.holds Tryz.pinned (OpenSpec.ofChange soloSomeWrong)

/-- 'breadlinelaw21.SoloIdle': WHATEVER THE INPUT: true; the input reads as it did. -/
def soloIdleSpec : ChangeSpec := { name := "soloIdle", fn := fun _ => fun
  | [d1, d2] => { results := [.lit (.bool true)], args := [d1, d2] }
  | _ => none }
def soloIdleRow : OpenClaim := { program := "ytnfcoikbkmhggaagreat", sum := "8fc2a0c714c68d0c2f6471b4cb6e85d4cf001145433f940a3c5eb36166f165ff", func := "breadline/breadlinelaw21.SoloIdle", spec := "soloIdle", unfollowed := true, recurses := true, leaving := true, apart := false }
def SoloIdleSaid : Prop := soloIdleRow.holds Tryz.pinned (OpenSpec.ofChange soloIdleSpec)

/-- ITS FALSE NEIGHBOUR: 'it returns false'. Refute it at one input. -/
def soloIdleWrong : ChangeSpec := { name := "soloIdle", fn := fun _ => fun
  | [d1, d2] => { results := [.lit (.bool false)], args := [d1, d2] }
  | _ => none }
def SoloIdleWrongFalsely : Prop := soloIdleRow.holds Tryz.pinned (OpenSpec.ofChange soloIdleWrong)

/-- 'breadlinelaw21.SoloTells': WHATEVER THE INPUT: true; the input reads as it did. -/
def soloTellsSpec : ChangeSpec := { name := "soloTells", fn := fun _ => fun
  | [d1, d2, d3] => { results := [.lit (.bool true)], args := [d1, d2, d3] }
  | _ => none }
def soloTellsRow : OpenClaim := { program := "ytnfcoikbkmhggaagreat", sum := "8fc2a0c714c68d0c2f6471b4cb6e85d4cf001145433f940a3c5eb36166f165ff", func := "breadline/breadlinelaw21.SoloTells", spec := "soloTells", unfollowed := true, recurses := true, leaving := true, apart := false }
def SoloTellsSaid : Prop := soloTellsRow.holds Tryz.pinned (OpenSpec.ofChange soloTellsSpec)

/-- ITS FALSE NEIGHBOUR: 'it returns false'. Refute it at one input. -/
def soloTellsWrong : ChangeSpec := { name := "soloTells", fn := fun _ => fun
  | [d1, d2, d3] => { results := [.lit (.bool false)], args := [d1, d2, d3] }
  | _ => none }
def SoloTellsWrongFalsely : Prop := soloTellsRow.holds Tryz.pinned (OpenSpec.ofChange soloTellsWrong)

/-- 'breadlinelaw22.BoundTells': WHATEVER THE INPUT: true; the input reads as it did. -/
def boundTellsSpec : ChangeSpec := { name := "boundTells", fn := fun _ => fun
  | [d1, d2] => { results := [.lit (.bool true)], args := [d1, d2] }
  | _ => none }
def boundTellsRow : OpenClaim := { program := "ytnfcoikbkmhggaagreat", sum := "8fc2a0c714c68d0c2f6471b4cb6e85d4cf001145433f940a3c5eb36166f165ff", func := "breadline/breadlinelaw22.BoundTells", spec := "boundTells", unfollowed := true, recurses := true, leaving := true, apart := false }
def BoundTellsSaid : Prop := boundTellsRow.holds Tryz.pinned (OpenSpec.ofChange boundTellsSpec)

/-- ITS FALSE NEIGHBOUR: 'it returns false'. Refute it at one input. -/
def boundTellsWrong : ChangeSpec := { name := "boundTells", fn := fun _ => fun
  | [d1, d2] => { results := [.lit (.bool false)], args := [d1, d2] }
  | _ => none }
def BoundTellsWrongFalsely : Prop := boundTellsRow.holds Tryz.pinned (OpenSpec.ofChange boundTellsWrong)

/-- 'breadlinelaw22.BoundNone': WHATEVER THE INPUT: true; the input reads as it did. -/
def boundNoneSpec : ChangeSpec := { name := "boundNone", fn := fun _ => fun
  | [d] => { results := [.lit (.bool true)], args := [d] }
  | _ => none }
def boundNoneRow : OpenClaim := { program := "ytnfcoikbkmhggaagreat", sum := "8fc2a0c714c68d0c2f6471b4cb6e85d4cf001145433f940a3c5eb36166f165ff", func := "breadline/breadlinelaw22.BoundNone", spec := "boundNone", unfollowed := true, recurses := true, leaving := true, apart := false }
def BoundNoneSaid : Prop := boundNoneRow.holds Tryz.pinned (OpenSpec.ofChange boundNoneSpec)

/-- ITS FALSE NEIGHBOUR: 'it returns false'. Refute it at one input. -/
def boundNoneWrong : ChangeSpec := { name := "boundNone", fn := fun _ => fun
  | [d] => { results := [.lit (.bool false)], args := [d] }
  | _ => none }
def BoundNoneWrongFalsely : Prop := boundNoneRow.holds Tryz.pinned (OpenSpec.ofChange boundNoneWrong)

/-- 'breadlinelaw22.BoundOne': WHATEVER THE INPUT: true; the input reads as it did. -/
def boundOneSpec : ChangeSpec := { name := "boundOne", fn := fun _ => fun
  | [d1, d2] => { results := [.lit (.bool true)], args := [d1, d2] }
  | _ => none }
def boundOneRow : OpenClaim := { program := "ytnfcoikbkmhggaagreat", sum := "8fc2a0c714c68d0c2f6471b4cb6e85d4cf001145433f940a3c5eb36166f165ff", func := "breadline/breadlinelaw22.BoundOne", spec := "boundOne", unfollowed := true, recurses := true, leaving := true, apart := false }
def BoundOneSaid : Prop := boundOneRow.holds Tryz.pinned (OpenSpec.ofChange boundOneSpec)

/-- ITS FALSE NEIGHBOUR: 'it returns false'. Refute it at one input. -/
def boundOneWrong : ChangeSpec := { name := "boundOne", fn := fun _ => fun
  | [d1, d2] => { results := [.lit (.bool false)], args := [d1, d2] }
  | _ => none }
def BoundOneWrongFalsely : Prop := boundOneRow.holds Tryz.pinned (OpenSpec.ofChange boundOneWrong)

/-- 'breadlinelaw22.BoundSlack': WHATEVER THE INPUT: true; the input reads as it did. -/
def boundSlackSpec : ChangeSpec := { name := "boundSlack", fn := fun _ => fun
  | [d1, d2, d3] => { results := [.lit (.bool true)], args := [d1, d2, d3] }
  | _ => none }
def boundSlackRow : OpenClaim := { program := "ytnfcoikbkmhggaagreat", sum := "8fc2a0c714c68d0c2f6471b4cb6e85d4cf001145433f940a3c5eb36166f165ff", func := "breadline/breadlinelaw22.BoundSlack", spec := "boundSlack", unfollowed := true, recurses := true, leaving := true, apart := false }
def BoundSlackSaid : Prop := boundSlackRow.holds Tryz.pinned (OpenSpec.ofChange boundSlackSpec)

/-- ITS FALSE NEIGHBOUR: 'it returns false'. Refute it at one input. -/
def boundSlackWrong : ChangeSpec := { name := "boundSlack", fn := fun _ => fun
  | [d1, d2, d3] => { results := [.lit (.bool false)], args := [d1, d2, d3] }
  | _ => none }
def BoundSlackWrongFalsely : Prop := boundSlackRow.holds Tryz.pinned (OpenSpec.ofChange boundSlackWrong)

/-- 'breadlinelaw22.BoundMost': WHATEVER THE INPUT: true; the input reads as it did. -/
def boundMostSpec : ChangeSpec := { name := "boundMost", fn := fun _ => fun
  | [d1, d2, d3] => { results := [.lit (.bool true)], args := [d1, d2, d3] }
  | _ => none }
def boundMostRow : OpenClaim := { program := "ytnfcoikbkmhggaagreat", sum := "8fc2a0c714c68d0c2f6471b4cb6e85d4cf001145433f940a3c5eb36166f165ff", func := "breadline/breadlinelaw22.BoundMost", spec := "boundMost", unfollowed := true, recurses := true, leaving := true, apart := false }
def BoundMostSaid : Prop := boundMostRow.holds Tryz.pinned (OpenSpec.ofChange boundMostSpec)

/-- ITS FALSE NEIGHBOUR: 'it returns false'. Refute it at one input. -/
def boundMostWrong : ChangeSpec := { name := "boundMost", fn := fun _ => fun
  | [d1, d2, d3] => { results := [.lit (.bool false)], args := [d1, d2, d3] }
  | _ => none }
def BoundMostWrongFalsely : Prop := boundMostRow.holds Tryz.pinned (OpenSpec.ofChange boundMostWrong)

/-- 'breadlinelaw22.BoundPart': WHATEVER THE INPUT: true; the input reads as it did. -/
def boundPartSpec : ChangeSpec := { name := "boundPart", fn := fun _ => fun
  | [d1, d2] => { results := [.lit (.bool true)], args := [d1, d2] }
  | _ => none }
def boundPartRow : OpenClaim := { program := "ytnfcoikbkmhggaagreat", sum := "8fc2a0c714c68d0c2f6471b4cb6e85d4cf001145433f940a3c5eb36166f165ff", func := "breadline/breadlinelaw22.BoundPart", spec := "boundPart", unfollowed := true, recurses := true, leaving := true, apart := false }
def BoundPartSaid : Prop := boundPartRow.holds Tryz.pinned (OpenSpec.ofChange boundPartSpec)

/-- ITS FALSE NEIGHBOUR: 'it returns false'. Refute it at one input. -/
def boundPartWrong : ChangeSpec := { name := "boundPart", fn := fun _ => fun
  | [d1, d2] => { results := [.lit (.bool false)], args := [d1, d2] }
  | _ => none }
def BoundPartWrongFalsely : Prop := boundPartRow.holds Tryz.pinned (OpenSpec.ofChange boundPartWrong)

/-- 'breadlinelaw17.CrewTells': WHATEVER THE INPUT: true; the input reads as it did. -/
def crewTellsSpec : ChangeSpec := { name := "crewTells", fn := fun _ => fun
  | [d] => { results := [.lit (.bool true)], args := [d] }
  | _ => none }
def crewTellsRow : OpenClaim := { program := "ytnfcoikbkmhggaagreat", sum := "8fc2a0c714c68d0c2f6471b4cb6e85d4cf001145433f940a3c5eb36166f165ff", func := "breadline/breadlinelaw17.CrewTells", spec := "crewTells", inPlace := ["(*sync.WaitGroup).Add", "internal/race.ReleaseMerge", "internal/race.Disable", "internal/race.Enable", "internal/synctest.IsInBubble", "internal/synctest.Associate[sync.WaitGroup]", "sync.fatal", "sync/atomic.OrUint64", "sync/atomic.AddUint64", "internal/race.Read", "sync/atomic.LoadUint64", "sync/atomic.StoreUint64", "internal/synctest.Disassociate[sync.WaitGroup]", "sync.runtime_Semrelease", "(*sync.WaitGroup).Done", "(*internal/sync.Mutex).Lock", "sync/atomic.CompareAndSwapInt32", "internal/race.Acquire", "(*internal/sync.Mutex).lockSlow", "internal/sync.runtime_canSpin", "internal/sync.runtime_doSpin", "internal/sync.throw", "internal/sync.runtime_nanotime", "internal/sync.runtime_SemacquireMutex", "sync/atomic.AddInt32", "(*internal/sync.Mutex).Unlock", "(*internal/sync.Mutex).unlockSlow", "internal/sync.fatal", "internal/sync.runtime_Semrelease", "(*sync.WaitGroup).Wait", "internal/synctest.IsAssociated[sync.WaitGroup]", "sync/atomic.CompareAndSwapUint64", "internal/race.Write", "sync.runtime_SemacquireWaitGroup"], unfollowed := true, recurses := true, leaving := true, apart := false, calm := true, outside := [.timePasses] }
def CrewTellsSaid : Prop := crewTellsRow.holds Tryz.pinned (OpenSpec.ofChange crewTellsSpec)

/-- ITS FALSE NEIGHBOUR: 'it returns false'. Refute it at one input. -/
def crewTellsWrong : ChangeSpec := { name := "crewTells", fn := fun _ => fun
  | [d] => { results := [.lit (.bool false)], args := [d] }
  | _ => none }
def CrewTellsWrongFalsely : Prop := crewTellsRow.holds Tryz.pinned (OpenSpec.ofChange crewTellsWrong)

/-- 'breadlinelaw17.CrewAgain': WHATEVER THE INPUT: true; the input reads as it did. -/
def crewAgainSpec : ChangeSpec := { name := "crewAgain", fn := fun _ => fun
  | [d1, d2] => { results := [.lit (.bool true)], args := [d1, d2] }
  | _ => none }
def crewAgainRow : OpenClaim := { program := "ytnfcoikbkmhggaagreat", sum := "8fc2a0c714c68d0c2f6471b4cb6e85d4cf001145433f940a3c5eb36166f165ff", func := "breadline/breadlinelaw17.CrewAgain", spec := "crewAgain", inPlace := ["(*sync.WaitGroup).Add", "internal/race.ReleaseMerge", "internal/race.Disable", "internal/race.Enable", "internal/synctest.IsInBubble", "internal/synctest.Associate[sync.WaitGroup]", "sync.fatal", "sync/atomic.OrUint64", "sync/atomic.AddUint64", "internal/race.Read", "sync/atomic.LoadUint64", "sync/atomic.StoreUint64", "internal/synctest.Disassociate[sync.WaitGroup]", "sync.runtime_Semrelease", "(*sync.WaitGroup).Done", "(*internal/sync.Mutex).Lock", "sync/atomic.CompareAndSwapInt32", "internal/race.Acquire", "(*internal/sync.Mutex).lockSlow", "internal/sync.runtime_canSpin", "internal/sync.runtime_doSpin", "internal/sync.throw", "internal/sync.runtime_nanotime", "internal/sync.runtime_SemacquireMutex", "sync/atomic.AddInt32", "(*internal/sync.Mutex).Unlock", "(*internal/sync.Mutex).unlockSlow", "internal/sync.fatal", "internal/sync.runtime_Semrelease", "(*sync.WaitGroup).Wait", "internal/synctest.IsAssociated[sync.WaitGroup]", "sync/atomic.CompareAndSwapUint64", "internal/race.Write", "sync.runtime_SemacquireWaitGroup"], unfollowed := true, recurses := true, leaving := true, apart := false, calm := true, outside := [.timePasses] }
def CrewAgainSaid : Prop := crewAgainRow.holds Tryz.pinned (OpenSpec.ofChange crewAgainSpec)

/-- ITS FALSE NEIGHBOUR: 'it returns false'. Refute it at one input. -/
def crewAgainWrong : ChangeSpec := { name := "crewAgain", fn := fun _ => fun
  | [d1, d2] => { results := [.lit (.bool false)], args := [d1, d2] }
  | _ => none }
def CrewAgainWrongFalsely : Prop := crewAgainRow.holds Tryz.pinned (OpenSpec.ofChange crewAgainWrong)

/-- 'breadlinelaw17.CrewEnds': WHATEVER THE INPUT: true; the input reads as it did. -/
def crewEndsSpec : ChangeSpec := { name := "crewEnds", fn := fun _ => fun
  | [d] => { results := [.lit (.bool true)], args := [d] }
  | _ => none }
def crewEndsRow : OpenClaim := { program := "ytnfcoikbkmhggaagreat", sum := "8fc2a0c714c68d0c2f6471b4cb6e85d4cf001145433f940a3c5eb36166f165ff", func := "breadline/breadlinelaw17.CrewEnds", spec := "crewEnds", inPlace := ["(*sync.WaitGroup).Add", "internal/race.ReleaseMerge", "internal/race.Disable", "internal/race.Enable", "internal/synctest.IsInBubble", "internal/synctest.Associate[sync.WaitGroup]", "sync.fatal", "sync/atomic.OrUint64", "sync/atomic.AddUint64", "internal/race.Read", "sync/atomic.LoadUint64", "sync/atomic.StoreUint64", "internal/synctest.Disassociate[sync.WaitGroup]", "sync.runtime_Semrelease", "(*sync.WaitGroup).Done", "(*internal/sync.Mutex).Lock", "sync/atomic.CompareAndSwapInt32", "internal/race.Acquire", "(*internal/sync.Mutex).lockSlow", "internal/sync.runtime_canSpin", "internal/sync.runtime_doSpin", "internal/sync.throw", "internal/sync.runtime_nanotime", "internal/sync.runtime_SemacquireMutex", "sync/atomic.AddInt32", "(*internal/sync.Mutex).Unlock", "(*internal/sync.Mutex).unlockSlow", "internal/sync.fatal", "internal/sync.runtime_Semrelease", "(*sync.WaitGroup).Wait", "internal/synctest.IsAssociated[sync.WaitGroup]", "sync/atomic.CompareAndSwapUint64", "internal/race.Write", "sync.runtime_SemacquireWaitGroup"], unfollowed := true, recurses := true, leaving := true, apart := false, calm := true, outside := [.timePasses] }
def CrewEndsSaid : Prop := crewEndsRow.holds Tryz.pinned (OpenSpec.ofChange crewEndsSpec)

/-- ITS FALSE NEIGHBOUR: 'it returns false'. Refute it at one input. -/
def crewEndsWrong : ChangeSpec := { name := "crewEnds", fn := fun _ => fun
  | [d] => { results := [.lit (.bool false)], args := [d] }
  | _ => none }
def CrewEndsWrongFalsely : Prop := crewEndsRow.holds Tryz.pinned (OpenSpec.ofChange crewEndsWrong)

/-- 'breadlinelaw17.CrewQuiet': WHATEVER THE INPUT: true; the input reads as it did. -/
def crewQuietSpec : ChangeSpec := { name := "crewQuiet", fn := fun _ => fun
  | [d] => { results := [.lit (.bool true)], args := [d] }
  | _ => none }
def crewQuietRow : OpenClaim := { program := "ytnfcoikbkmhggaagreat", sum := "8fc2a0c714c68d0c2f6471b4cb6e85d4cf001145433f940a3c5eb36166f165ff", func := "breadline/breadlinelaw17.CrewQuiet", spec := "crewQuiet", inPlace := ["(*sync.WaitGroup).Add", "internal/race.ReleaseMerge", "internal/race.Disable", "internal/race.Enable", "internal/synctest.IsInBubble", "internal/synctest.Associate[sync.WaitGroup]", "sync.fatal", "sync/atomic.OrUint64", "sync/atomic.AddUint64", "internal/race.Read", "sync/atomic.LoadUint64", "sync/atomic.StoreUint64", "internal/synctest.Disassociate[sync.WaitGroup]", "sync.runtime_Semrelease", "(*sync.WaitGroup).Done", "(*internal/sync.Mutex).Lock", "sync/atomic.CompareAndSwapInt32", "internal/race.Acquire", "(*internal/sync.Mutex).lockSlow", "internal/sync.runtime_canSpin", "internal/sync.runtime_doSpin", "internal/sync.throw", "internal/sync.runtime_nanotime", "internal/sync.runtime_SemacquireMutex", "sync/atomic.AddInt32", "(*internal/sync.Mutex).Unlock", "(*internal/sync.Mutex).unlockSlow", "internal/sync.fatal", "internal/sync.runtime_Semrelease", "(*sync.WaitGroup).Wait", "internal/synctest.IsAssociated[sync.WaitGroup]", "sync/atomic.CompareAndSwapUint64", "internal/race.Write", "sync.runtime_SemacquireWaitGroup"], unfollowed := true, recurses := true, leaving := true, apart := false, calm := true, outside := [.timePasses] }
def CrewQuietSaid : Prop := crewQuietRow.holds Tryz.pinned (OpenSpec.ofChange crewQuietSpec)

/-- ITS FALSE NEIGHBOUR: 'it returns false'. Refute it at one input. -/
def crewQuietWrong : ChangeSpec := { name := "crewQuiet", fn := fun _ => fun
  | [d] => { results := [.lit (.bool false)], args := [d] }
  | _ => none }
def CrewQuietWrongFalsely : Prop := crewQuietRow.holds Tryz.pinned (OpenSpec.ofChange crewQuietWrong)

/-- 'breadlinelaw17.CrewOdd': WHATEVER THE INPUT: true; the input reads as it did. -/
def crewOddSpec : ChangeSpec := { name := "crewOdd", fn := fun _ => fun
  | [d] => { results := [.lit (.bool true)], args := [d] }
  | _ => none }
def crewOddRow : OpenClaim := { program := "ytnfcoikbkmhggaagreat", sum := "8fc2a0c714c68d0c2f6471b4cb6e85d4cf001145433f940a3c5eb36166f165ff", func := "breadline/breadlinelaw17.CrewOdd", spec := "crewOdd", inPlace := ["(*sync.WaitGroup).Add", "internal/race.ReleaseMerge", "internal/race.Disable", "internal/race.Enable", "internal/synctest.IsInBubble", "internal/synctest.Associate[sync.WaitGroup]", "sync.fatal", "sync/atomic.OrUint64", "sync/atomic.AddUint64", "internal/race.Read", "sync/atomic.LoadUint64", "sync/atomic.StoreUint64", "internal/synctest.Disassociate[sync.WaitGroup]", "sync.runtime_Semrelease", "(*sync.WaitGroup).Done", "(*internal/sync.Mutex).Lock", "sync/atomic.CompareAndSwapInt32", "internal/race.Acquire", "(*internal/sync.Mutex).lockSlow", "internal/sync.runtime_canSpin", "internal/sync.runtime_doSpin", "internal/sync.throw", "internal/sync.runtime_nanotime", "internal/sync.runtime_SemacquireMutex", "sync/atomic.AddInt32", "(*internal/sync.Mutex).Unlock", "(*internal/sync.Mutex).unlockSlow", "internal/sync.fatal", "internal/sync.runtime_Semrelease", "(*sync.WaitGroup).Wait", "internal/synctest.IsAssociated[sync.WaitGroup]", "sync/atomic.CompareAndSwapUint64", "internal/race.Write", "sync.runtime_SemacquireWaitGroup"], unfollowed := true, recurses := true, leaving := true, apart := false, calm := true, outside := [.timePasses] }
def CrewOddSaid : Prop := crewOddRow.holds Tryz.pinned (OpenSpec.ofChange crewOddSpec)

/-- ITS FALSE NEIGHBOUR: 'it returns false'. Refute it at one input. -/
def crewOddWrong : ChangeSpec := { name := "crewOdd", fn := fun _ => fun
  | [d] => { results := [.lit (.bool false)], args := [d] }
  | _ => none }
def CrewOddWrongFalsely : Prop := crewOddRow.holds Tryz.pinned (OpenSpec.ofChange crewOddWrong)

/-- 'breadlinelaw17.CrewAlike': WHATEVER THE INPUT: true; the input reads as it did. -/
def crewAlikeSpec : ChangeSpec := { name := "crewAlike", fn := fun _ => fun
  | [d] => { results := [.lit (.bool true)], args := [d] }
  | _ => none }
def crewAlikeRow : OpenClaim := { program := "ytnfcoikbkmhggaagreat", sum := "8fc2a0c714c68d0c2f6471b4cb6e85d4cf001145433f940a3c5eb36166f165ff", func := "breadline/breadlinelaw17.CrewAlike", spec := "crewAlike", inPlace := ["(*sync.WaitGroup).Add", "internal/race.ReleaseMerge", "internal/race.Disable", "internal/race.Enable", "internal/synctest.IsInBubble", "internal/synctest.Associate[sync.WaitGroup]", "sync.fatal", "sync/atomic.OrUint64", "sync/atomic.AddUint64", "internal/race.Read", "sync/atomic.LoadUint64", "sync/atomic.StoreUint64", "internal/synctest.Disassociate[sync.WaitGroup]", "sync.runtime_Semrelease", "(*sync.WaitGroup).Done", "(*internal/sync.Mutex).Lock", "sync/atomic.CompareAndSwapInt32", "internal/race.Acquire", "(*internal/sync.Mutex).lockSlow", "internal/sync.runtime_canSpin", "internal/sync.runtime_doSpin", "internal/sync.throw", "internal/sync.runtime_nanotime", "internal/sync.runtime_SemacquireMutex", "sync/atomic.AddInt32", "(*internal/sync.Mutex).Unlock", "(*internal/sync.Mutex).unlockSlow", "internal/sync.fatal", "internal/sync.runtime_Semrelease", "(*sync.WaitGroup).Wait", "internal/synctest.IsAssociated[sync.WaitGroup]", "sync/atomic.CompareAndSwapUint64", "internal/race.Write", "sync.runtime_SemacquireWaitGroup"], unfollowed := true, recurses := true, leaving := true, apart := false, calm := true, outside := [.timePasses] }
def CrewAlikeSaid : Prop := crewAlikeRow.holds Tryz.pinned (OpenSpec.ofChange crewAlikeSpec)

/-- ITS FALSE NEIGHBOUR: 'it returns false'. Refute it at one input. -/
def crewAlikeWrong : ChangeSpec := { name := "crewAlike", fn := fun _ => fun
  | [d] => { results := [.lit (.bool false)], args := [d] }
  | _ => none }
def CrewAlikeWrongFalsely : Prop := crewAlikeRow.holds Tryz.pinned (OpenSpec.ofChange crewAlikeWrong)

/- THE SECOND FORM. 'bulk': how many values and letters a reading holds, each counted each time it is reached (what is shared counts as often as it is met; a slice's spare places count too). A statement '..UptoSaid' is the law's where the arguments, and the package variables that the reading takes, are together of bulk at most 1048576: NARROWER than '..Said'. Prove '..Said' where nothing that the law and all that it calls make is longer than what came in: it says more and counts as full. Else prove '..UptoSaid'. A law counts once. -/
mutual
def uptoBulk {H : Type} : DataW H → Nat
  | .lit (.string bytes) => bytes.length + 1
  | .lit _ => 1
  | .nil => 1
  | .ptr d => uptoBulk d + 1
  | .slice elems spare => uptoBulkAll elems + uptoBulkAll spare + 1
  | .agg parts => uptoBulkAll parts + 1
  | .iface _ d => uptoBulk d + 1
  | .map entries => uptoBulkEntries entries + 1
  | .held _ => 1
def uptoBulkAll {H : Type} : List (DataW H) → Nat
  | [] => 0
  | d :: r => uptoBulk d + uptoBulkAll r
def uptoBulkEntries {H : Type} : List (Lit × DataW H) → Nat
  | [] => 0
  | x :: r => uptoBulkEntry x + uptoBulkEntries r
def uptoBulkEntry {H : Type} : Lit × DataW H → Nat
  | (.string bytes, d) => bytes.length + uptoBulk d + 1
  | (_, d) => uptoBulk d + 1
 end
def uptoSmall : (H : Type) → List (DataW H) → Bool := fun _ ds => decide (uptoBulkAll ds ≤ 1048576)
def OpenSpec.upto (s : _root_.Go.ChangeSpec) : _root_.Go.OpenSpec := { _root_.Go.OpenSpec.ofChange s with cond := some uptoSmall }

/-- 'breadlinelaw21.SoloMore', WHERE WHAT IT READS IS OF BULK AT MOST 1048576: true; the input reads as it did. -/
def soloMoreUptoRow : OpenClaim := { program := "ytnfcoikbkmhggaagreat", sum := "8fc2a0c714c68d0c2f6471b4cb6e85d4cf001145433f940a3c5eb36166f165ff", func := "breadline/breadlinelaw21.SoloMore", spec := "soloMore", unfollowed := true, recurses := true, leaving := true, apart := false, narrowed := true }
def SoloMoreUptoSaid : Prop := soloMoreUptoRow.holds Tryz.pinned (OpenSpec.upto soloMoreSpec)

/-- 'breadlinelaw21.SoloAlone', WHERE WHAT IT READS IS OF BULK AT MOST 1048576: true; the input reads as it did. -/
def soloAloneUptoRow : OpenClaim := { program := "ytnfcoikbkmhggaagreat", sum := "8fc2a0c714c68d0c2f6471b4cb6e85d4cf001145433f940a3c5eb36166f165ff", func := "breadline/breadlinelaw21.SoloAlone", spec := "soloAlone", unfollowed := true, recurses := true, leaving := true, apart := false, narrowed := true }
def SoloAloneUptoSaid : Prop := soloAloneUptoRow.holds Tryz.pinned (OpenSpec.upto soloAloneSpec)

/-- 'breadlinelaw21.SoloEach', WHERE WHAT IT READS IS OF BULK AT MOST 1048576: true; the input reads as it did. -/
def soloEachUptoRow : OpenClaim := { program := "ytnfcoikbkmhggaagreat", sum := "8fc2a0c714c68d0c2f6471b4cb6e85d4cf001145433f940a3c5eb36166f165ff", func := "breadline/breadlinelaw21.SoloEach", spec := "soloEach", unfollowed := true, recurses := true, leaving := true, apart := false, narrowed := true }
def SoloEachUptoSaid : Prop := soloEachUptoRow.holds Tryz.pinned (OpenSpec.upto soloEachSpec)

/-- 'breadlinelaw21.SoloSome', WHERE WHAT IT READS IS OF BULK AT MOST 1048576: true; the input reads as it did. -/
def soloSomeUptoRow : OpenClaim := { program := "ytnfcoikbkmhggaagreat", sum := "8fc2a0c714c68d0c2f6471b4cb6e85d4cf001145433f940a3c5eb36166f165ff", func := "breadline/breadlinelaw21.SoloSome", spec := "soloSome", unfollowed := true, recurses := true, leaving := true, apart := false, narrowed := true }
def SoloSomeUptoSaid : Prop := soloSomeUptoRow.holds Tryz.pinned (OpenSpec.upto soloSomeSpec)

/-- 'breadlinelaw21.SoloIdle', WHERE WHAT IT READS IS OF BULK AT MOST 1048576: true; the input reads as it did. -/
def soloIdleUptoRow : OpenClaim := { program := "ytnfcoikbkmhggaagreat", sum := "8fc2a0c714c68d0c2f6471b4cb6e85d4cf001145433f940a3c5eb36166f165ff", func := "breadline/breadlinelaw21.SoloIdle", spec := "soloIdle", unfollowed := true, recurses := true, leaving := true, apart := false, narrowed := true }
def SoloIdleUptoSaid : Prop := soloIdleUptoRow.holds Tryz.pinned (OpenSpec.upto soloIdleSpec)

/-- 'breadlinelaw21.SoloTells', WHERE WHAT IT READS IS OF BULK AT MOST 1048576: true; the input reads as it did. -/
def soloTellsUptoRow : OpenClaim := { program := "ytnfcoikbkmhggaagreat", sum := "8fc2a0c714c68d0c2f6471b4cb6e85d4cf001145433f940a3c5eb36166f165ff", func := "breadline/breadlinelaw21.SoloTells", spec := "soloTells", unfollowed := true, recurses := true, leaving := true, apart := false, narrowed := true }
def SoloTellsUptoSaid : Prop := soloTellsUptoRow.holds Tryz.pinned (OpenSpec.upto soloTellsSpec)

/-- 'breadlinelaw22.BoundTells', WHERE WHAT IT READS IS OF BULK AT MOST 1048576: true; the input reads as it did. -/
def boundTellsUptoRow : OpenClaim := { program := "ytnfcoikbkmhggaagreat", sum := "8fc2a0c714c68d0c2f6471b4cb6e85d4cf001145433f940a3c5eb36166f165ff", func := "breadline/breadlinelaw22.BoundTells", spec := "boundTells", unfollowed := true, recurses := true, leaving := true, apart := false, narrowed := true }
def BoundTellsUptoSaid : Prop := boundTellsUptoRow.holds Tryz.pinned (OpenSpec.upto boundTellsSpec)

/-- 'breadlinelaw22.BoundNone', WHERE WHAT IT READS IS OF BULK AT MOST 1048576: true; the input reads as it did. -/
def boundNoneUptoRow : OpenClaim := { program := "ytnfcoikbkmhggaagreat", sum := "8fc2a0c714c68d0c2f6471b4cb6e85d4cf001145433f940a3c5eb36166f165ff", func := "breadline/breadlinelaw22.BoundNone", spec := "boundNone", unfollowed := true, recurses := true, leaving := true, apart := false, narrowed := true }
def BoundNoneUptoSaid : Prop := boundNoneUptoRow.holds Tryz.pinned (OpenSpec.upto boundNoneSpec)

/-- 'breadlinelaw22.BoundOne', WHERE WHAT IT READS IS OF BULK AT MOST 1048576: true; the input reads as it did. -/
def boundOneUptoRow : OpenClaim := { program := "ytnfcoikbkmhggaagreat", sum := "8fc2a0c714c68d0c2f6471b4cb6e85d4cf001145433f940a3c5eb36166f165ff", func := "breadline/breadlinelaw22.BoundOne", spec := "boundOne", unfollowed := true, recurses := true, leaving := true, apart := false, narrowed := true }
def BoundOneUptoSaid : Prop := boundOneUptoRow.holds Tryz.pinned (OpenSpec.upto boundOneSpec)

/-- 'breadlinelaw22.BoundSlack', WHERE WHAT IT READS IS OF BULK AT MOST 1048576: true; the input reads as it did. -/
def boundSlackUptoRow : OpenClaim := { program := "ytnfcoikbkmhggaagreat", sum := "8fc2a0c714c68d0c2f6471b4cb6e85d4cf001145433f940a3c5eb36166f165ff", func := "breadline/breadlinelaw22.BoundSlack", spec := "boundSlack", unfollowed := true, recurses := true, leaving := true, apart := false, narrowed := true }
def BoundSlackUptoSaid : Prop := boundSlackUptoRow.holds Tryz.pinned (OpenSpec.upto boundSlackSpec)

/-- 'breadlinelaw22.BoundMost', WHERE WHAT IT READS IS OF BULK AT MOST 1048576: true; the input reads as it did. -/
def boundMostUptoRow : OpenClaim := { program := "ytnfcoikbkmhggaagreat", sum := "8fc2a0c714c68d0c2f6471b4cb6e85d4cf001145433f940a3c5eb36166f165ff", func := "breadline/breadlinelaw22.BoundMost", spec := "boundMost", unfollowed := true, recurses := true, leaving := true, apart := false, narrowed := true }
def BoundMostUptoSaid : Prop := boundMostUptoRow.holds Tryz.pinned (OpenSpec.upto boundMostSpec)

/-- 'breadlinelaw22.BoundPart', WHERE WHAT IT READS IS OF BULK AT MOST 1048576: true; the input reads as it did. -/
def boundPartUptoRow : OpenClaim := { program := "ytnfcoikbkmhggaagreat", sum := "8fc2a0c714c68d0c2f6471b4cb6e85d4cf001145433f940a3c5eb36166f165ff", func := "breadline/breadlinelaw22.BoundPart", spec := "boundPart", unfollowed := true, recurses := true, leaving := true, apart := false, narrowed := true }
def BoundPartUptoSaid : Prop := boundPartUptoRow.holds Tryz.pinned (OpenSpec.upto boundPartSpec)

/-- 'breadlinelaw17.CrewTells', WHERE WHAT IT READS IS OF BULK AT MOST 1048576: true; the input reads as it did. -/
def crewTellsUptoRow : OpenClaim := { program := "ytnfcoikbkmhggaagreat", sum := "8fc2a0c714c68d0c2f6471b4cb6e85d4cf001145433f940a3c5eb36166f165ff", func := "breadline/breadlinelaw17.CrewTells", spec := "crewTells", inPlace := ["(*sync.WaitGroup).Add", "internal/race.ReleaseMerge", "internal/race.Disable", "internal/race.Enable", "internal/synctest.IsInBubble", "internal/synctest.Associate[sync.WaitGroup]", "sync.fatal", "sync/atomic.OrUint64", "sync/atomic.AddUint64", "internal/race.Read", "sync/atomic.LoadUint64", "sync/atomic.StoreUint64", "internal/synctest.Disassociate[sync.WaitGroup]", "sync.runtime_Semrelease", "(*sync.WaitGroup).Done", "(*internal/sync.Mutex).Lock", "sync/atomic.CompareAndSwapInt32", "internal/race.Acquire", "(*internal/sync.Mutex).lockSlow", "internal/sync.runtime_canSpin", "internal/sync.runtime_doSpin", "internal/sync.throw", "internal/sync.runtime_nanotime", "internal/sync.runtime_SemacquireMutex", "sync/atomic.AddInt32", "(*internal/sync.Mutex).Unlock", "(*internal/sync.Mutex).unlockSlow", "internal/sync.fatal", "internal/sync.runtime_Semrelease", "(*sync.WaitGroup).Wait", "internal/synctest.IsAssociated[sync.WaitGroup]", "sync/atomic.CompareAndSwapUint64", "internal/race.Write", "sync.runtime_SemacquireWaitGroup"], unfollowed := true, recurses := true, leaving := true, apart := false, calm := true, outside := [.timePasses], narrowed := true }
def CrewTellsUptoSaid : Prop := crewTellsUptoRow.holds Tryz.pinned (OpenSpec.upto crewTellsSpec)

/-- 'breadlinelaw17.CrewAgain', WHERE WHAT IT READS IS OF BULK AT MOST 1048576: true; the input reads as it did. -/
def crewAgainUptoRow : OpenClaim := { program := "ytnfcoikbkmhggaagreat", sum := "8fc2a0c714c68d0c2f6471b4cb6e85d4cf001145433f940a3c5eb36166f165ff", func := "breadline/breadlinelaw17.CrewAgain", spec := "crewAgain", inPlace := ["(*sync.WaitGroup).Add", "internal/race.ReleaseMerge", "internal/race.Disable", "internal/race.Enable", "internal/synctest.IsInBubble", "internal/synctest.Associate[sync.WaitGroup]", "sync.fatal", "sync/atomic.OrUint64", "sync/atomic.AddUint64", "internal/race.Read", "sync/atomic.LoadUint64", "sync/atomic.StoreUint64", "internal/synctest.Disassociate[sync.WaitGroup]", "sync.runtime_Semrelease", "(*sync.WaitGroup).Done", "(*internal/sync.Mutex).Lock", "sync/atomic.CompareAndSwapInt32", "internal/race.Acquire", "(*internal/sync.Mutex).lockSlow", "internal/sync.runtime_canSpin", "internal/sync.runtime_doSpin", "internal/sync.throw", "internal/sync.runtime_nanotime", "internal/sync.runtime_SemacquireMutex", "sync/atomic.AddInt32", "(*internal/sync.Mutex).Unlock", "(*internal/sync.Mutex).unlockSlow", "internal/sync.fatal", "internal/sync.runtime_Semrelease", "(*sync.WaitGroup).Wait", "internal/synctest.IsAssociated[sync.WaitGroup]", "sync/atomic.CompareAndSwapUint64", "internal/race.Write", "sync.runtime_SemacquireWaitGroup"], unfollowed := true, recurses := true, leaving := true, apart := false, calm := true, outside := [.timePasses], narrowed := true }
def CrewAgainUptoSaid : Prop := crewAgainUptoRow.holds Tryz.pinned (OpenSpec.upto crewAgainSpec)

/-- 'breadlinelaw17.CrewEnds', WHERE WHAT IT READS IS OF BULK AT MOST 1048576: true; the input reads as it did. -/
def crewEndsUptoRow : OpenClaim := { program := "ytnfcoikbkmhggaagreat", sum := "8fc2a0c714c68d0c2f6471b4cb6e85d4cf001145433f940a3c5eb36166f165ff", func := "breadline/breadlinelaw17.CrewEnds", spec := "crewEnds", inPlace := ["(*sync.WaitGroup).Add", "internal/race.ReleaseMerge", "internal/race.Disable", "internal/race.Enable", "internal/synctest.IsInBubble", "internal/synctest.Associate[sync.WaitGroup]", "sync.fatal", "sync/atomic.OrUint64", "sync/atomic.AddUint64", "internal/race.Read", "sync/atomic.LoadUint64", "sync/atomic.StoreUint64", "internal/synctest.Disassociate[sync.WaitGroup]", "sync.runtime_Semrelease", "(*sync.WaitGroup).Done", "(*internal/sync.Mutex).Lock", "sync/atomic.CompareAndSwapInt32", "internal/race.Acquire", "(*internal/sync.Mutex).lockSlow", "internal/sync.runtime_canSpin", "internal/sync.runtime_doSpin", "internal/sync.throw", "internal/sync.runtime_nanotime", "internal/sync.runtime_SemacquireMutex", "sync/atomic.AddInt32", "(*internal/sync.Mutex).Unlock", "(*internal/sync.Mutex).unlockSlow", "internal/sync.fatal", "internal/sync.runtime_Semrelease", "(*sync.WaitGroup).Wait", "internal/synctest.IsAssociated[sync.WaitGroup]", "sync/atomic.CompareAndSwapUint64", "internal/race.Write", "sync.runtime_SemacquireWaitGroup"], unfollowed := true, recurses := true, leaving := true, apart := false, calm := true, outside := [.timePasses], narrowed := true }
def CrewEndsUptoSaid : Prop := crewEndsUptoRow.holds Tryz.pinned (OpenSpec.upto crewEndsSpec)

/-- 'breadlinelaw17.CrewQuiet', WHERE WHAT IT READS IS OF BULK AT MOST 1048576: true; the input reads as it did. -/
def crewQuietUptoRow : OpenClaim := { program := "ytnfcoikbkmhggaagreat", sum := "8fc2a0c714c68d0c2f6471b4cb6e85d4cf001145433f940a3c5eb36166f165ff", func := "breadline/breadlinelaw17.CrewQuiet", spec := "crewQuiet", inPlace := ["(*sync.WaitGroup).Add", "internal/race.ReleaseMerge", "internal/race.Disable", "internal/race.Enable", "internal/synctest.IsInBubble", "internal/synctest.Associate[sync.WaitGroup]", "sync.fatal", "sync/atomic.OrUint64", "sync/atomic.AddUint64", "internal/race.Read", "sync/atomic.LoadUint64", "sync/atomic.StoreUint64", "internal/synctest.Disassociate[sync.WaitGroup]", "sync.runtime_Semrelease", "(*sync.WaitGroup).Done", "(*internal/sync.Mutex).Lock", "sync/atomic.CompareAndSwapInt32", "internal/race.Acquire", "(*internal/sync.Mutex).lockSlow", "internal/sync.runtime_canSpin", "internal/sync.runtime_doSpin", "internal/sync.throw", "internal/sync.runtime_nanotime", "internal/sync.runtime_SemacquireMutex", "sync/atomic.AddInt32", "(*internal/sync.Mutex).Unlock", "(*internal/sync.Mutex).unlockSlow", "internal/sync.fatal", "internal/sync.runtime_Semrelease", "(*sync.WaitGroup).Wait", "internal/synctest.IsAssociated[sync.WaitGroup]", "sync/atomic.CompareAndSwapUint64", "internal/race.Write", "sync.runtime_SemacquireWaitGroup"], unfollowed := true, recurses := true, leaving := true, apart := false, calm := true, outside := [.timePasses], narrowed := true }
def CrewQuietUptoSaid : Prop := crewQuietUptoRow.holds Tryz.pinned (OpenSpec.upto crewQuietSpec)

/-- 'breadlinelaw17.CrewOdd', WHERE WHAT IT READS IS OF BULK AT MOST 1048576: true; the input reads as it did. -/
def crewOddUptoRow : OpenClaim := { program := "ytnfcoikbkmhggaagreat", sum := "8fc2a0c714c68d0c2f6471b4cb6e85d4cf001145433f940a3c5eb36166f165ff", func := "breadline/breadlinelaw17.CrewOdd", spec := "crewOdd", inPlace := ["(*sync.WaitGroup).Add", "internal/race.ReleaseMerge", "internal/race.Disable", "internal/race.Enable", "internal/synctest.IsInBubble", "internal/synctest.Associate[sync.WaitGroup]", "sync.fatal", "sync/atomic.OrUint64", "sync/atomic.AddUint64", "internal/race.Read", "sync/atomic.LoadUint64", "sync/atomic.StoreUint64", "internal/synctest.Disassociate[sync.WaitGroup]", "sync.runtime_Semrelease", "(*sync.WaitGroup).Done", "(*internal/sync.Mutex).Lock", "sync/atomic.CompareAndSwapInt32", "internal/race.Acquire", "(*internal/sync.Mutex).lockSlow", "internal/sync.runtime_canSpin", "internal/sync.runtime_doSpin", "internal/sync.throw", "internal/sync.runtime_nanotime", "internal/sync.runtime_SemacquireMutex", "sync/atomic.AddInt32", "(*internal/sync.Mutex).Unlock", "(*internal/sync.Mutex).unlockSlow", "internal/sync.fatal", "internal/sync.runtime_Semrelease", "(*sync.WaitGroup).Wait", "internal/synctest.IsAssociated[sync.WaitGroup]", "sync/atomic.CompareAndSwapUint64", "internal/race.Write", "sync.runtime_SemacquireWaitGroup"], unfollowed := true, recurses := true, leaving := true, apart := false, calm := true, outside := [.timePasses], narrowed := true }
def CrewOddUptoSaid : Prop := crewOddUptoRow.holds Tryz.pinned (OpenSpec.upto crewOddSpec)

/-- 'breadlinelaw17.CrewAlike', WHERE WHAT IT READS IS OF BULK AT MOST 1048576: true; the input reads as it did. -/
def crewAlikeUptoRow : OpenClaim := { program := "ytnfcoikbkmhggaagreat", sum := "8fc2a0c714c68d0c2f6471b4cb6e85d4cf001145433f940a3c5eb36166f165ff", func := "breadline/breadlinelaw17.CrewAlike", spec := "crewAlike", inPlace := ["(*sync.WaitGroup).Add", "internal/race.ReleaseMerge", "internal/race.Disable", "internal/race.Enable", "internal/synctest.IsInBubble", "internal/synctest.Associate[sync.WaitGroup]", "sync.fatal", "sync/atomic.OrUint64", "sync/atomic.AddUint64", "internal/race.Read", "sync/atomic.LoadUint64", "sync/atomic.StoreUint64", "internal/synctest.Disassociate[sync.WaitGroup]", "sync.runtime_Semrelease", "(*sync.WaitGroup).Done", "(*internal/sync.Mutex).Lock", "sync/atomic.CompareAndSwapInt32", "internal/race.Acquire", "(*internal/sync.Mutex).lockSlow", "internal/sync.runtime_canSpin", "internal/sync.runtime_doSpin", "internal/sync.throw", "internal/sync.runtime_nanotime", "internal/sync.runtime_SemacquireMutex", "sync/atomic.AddInt32", "(*internal/sync.Mutex).Unlock", "(*internal/sync.Mutex).unlockSlow", "internal/sync.fatal", "internal/sync.runtime_Semrelease", "(*sync.WaitGroup).Wait", "internal/synctest.IsAssociated[sync.WaitGroup]", "sync/atomic.CompareAndSwapUint64", "internal/race.Write", "sync.runtime_SemacquireWaitGroup"], unfollowed := true, recurses := true, leaving := true, apart := false, calm := true, outside := [.timePasses], narrowed := true }
def CrewAlikeUptoSaid : Prop := crewAlikeUptoRow.holds Tryz.pinned (OpenSpec.upto crewAlikeSpec)

end Rows
end Go.Proofs.YtnfcoikbkmhggaaGreat
