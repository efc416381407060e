/- Facts on the program's types and functions, found by their numbers (printed by a program of this session). -/
import Derived.Test.YtnfcoikbkmhggaaGreatAppend
import Derived.KernelRfl
import Derived.Test.YtnfcoikbkmhggaaGreatProg
set_option linter.all false
set_option linter.unusedVariables false
set_option linter.unusedSimpArgs false
namespace Go.BL
theorem TI.of_map {P : Program} {t : TypeId} {n b : Nat} {z : Value} (h : (P.info? t).map (fun i => (i.zero, i.size, i.bytes)) = some (some z, n, b)) : TI P t n b z := ⟨by
  cases hi : P.info? t with
  | none => simp [hi] at h
  | some i =>
    simp only [hi, Option.map_some, Option.some.injEq, Prod.mk.injEq] at h
    exact ⟨i, rfl, h.2.1, h.2.2, h.1⟩⟩
end Go.BL
namespace Go.Proofs
open Go.BL
instance : TA Tryz.prog 0 false := ⟨_, Tryz.underlying0, rfl⟩
instance : TN Tryz.prog 0 := ⟨_, Tryz.underlying0, rfl⟩
instance : TI Tryz.prog 0 1 0 (.tuple #[]) := .of_map (by kernel_rfl)
instance : TA Tryz.prog 1 false := ⟨_, Tryz.underlying1, rfl⟩
instance : TN Tryz.prog 1 := ⟨_, Tryz.underlying1, rfl⟩
instance : TI Tryz.prog 1 1 8 .nilFunc := .of_map (by kernel_rfl)
instance : TA Tryz.prog 2 false := ⟨_, Tryz.underlying2, rfl⟩
instance : TN Tryz.prog 2 := ⟨_, Tryz.underlying2, rfl⟩
instance : TU Tryz.prog 2 (.int .i64) := ⟨Tryz.underlying2⟩
instance : TI Tryz.prog 2 1 8 (.int .i64 0) := .of_map (by kernel_rfl)
instance : TA Tryz.prog 3 false := ⟨_, Tryz.underlying3, rfl⟩
instance : TN Tryz.prog 3 := ⟨_, Tryz.underlying3, rfl⟩
instance : TU Tryz.prog 3 (.int .i64) := ⟨Tryz.underlying3⟩
instance : TI Tryz.prog 3 1 8 (.int .i64 0) := .of_map (by kernel_rfl)
instance : TA Tryz.prog 4 false := ⟨_, Tryz.underlying4, rfl⟩
instance : TN Tryz.prog 4 := ⟨_, Tryz.underlying4, rfl⟩
instance : TU Tryz.prog 4 .bool := ⟨Tryz.underlying4⟩
instance : TI Tryz.prog 4 1 1 (.bool false) := .of_map (by kernel_rfl)
instance : TA Tryz.prog 5 false := ⟨_, Tryz.underlying5, rfl⟩
instance : TN Tryz.prog 5 := ⟨_, Tryz.underlying5, rfl⟩
instance : TU Tryz.prog 5 (.int .u8) := ⟨Tryz.underlying5⟩
instance : TI Tryz.prog 5 1 1 (.int .u8 0) := .of_map (by kernel_rfl)
instance : TA Tryz.prog 6 false := ⟨_, Tryz.underlying6, rfl⟩
instance : TN Tryz.prog 6 := ⟨_, Tryz.underlying6, rfl⟩
instance : TU Tryz.prog 6 (.int .u8) := ⟨Tryz.underlying6⟩
instance : TI Tryz.prog 6 1 1 (.int .u8 0) := .of_map (by kernel_rfl)
instance : TA Tryz.prog 7 true := ⟨_, Tryz.underlying7, rfl⟩
instance : TN Tryz.prog 7 := ⟨_, Tryz.underlying7, rfl⟩
instance : TF Tryz.prog 7 0 0 2 := ⟨_, _, Tryz.underlying7, rfl, rfl, rfl⟩
instance : TF Tryz.prog 7 1 1 3 := ⟨_, _, Tryz.underlying7, rfl, rfl, rfl⟩
instance : TF Tryz.prog 7 2 2 4 := ⟨_, _, Tryz.underlying7, rfl, rfl, rfl⟩
instance : TF Tryz.prog 7 3 3 6 := ⟨_, _, Tryz.underlying7, rfl, rfl, rfl⟩
instance : TS Tryz.prog 7 [(0, 1), (1, 1), (2, 1), (3, 1)] := ⟨_, Tryz.underlying7, fun _ _ => by kernel_rfl⟩
instance : TI Tryz.prog 7 4 24 (.agg #[(.int .i64 0), (.int .i64 0), (.bool false), (.int .u8 0)]) := .of_map (by kernel_rfl)
instance : TA Tryz.prog 8 true := ⟨_, Tryz.underlying8, rfl⟩
instance : TN Tryz.prog 8 := ⟨_, Tryz.underlying8, rfl⟩
instance : TF Tryz.prog 8 0 0 2 := ⟨_, _, Tryz.underlying8, rfl, rfl, rfl⟩
instance : TF Tryz.prog 8 1 1 3 := ⟨_, _, Tryz.underlying8, rfl, rfl, rfl⟩
instance : TF Tryz.prog 8 2 2 4 := ⟨_, _, Tryz.underlying8, rfl, rfl, rfl⟩
instance : TF Tryz.prog 8 3 3 6 := ⟨_, _, Tryz.underlying8, rfl, rfl, rfl⟩
instance : TS Tryz.prog 8 [(0, 1), (1, 1), (2, 1), (3, 1)] := ⟨_, Tryz.underlying8, fun _ _ => by kernel_rfl⟩
instance : TI Tryz.prog 8 4 24 (.agg #[(.int .i64 0), (.int .i64 0), (.bool false), (.int .u8 0)]) := .of_map (by kernel_rfl)
instance : TA Tryz.prog 9 false := ⟨_, Tryz.underlying9, rfl⟩
instance : TN Tryz.prog 9 := ⟨_, Tryz.underlying9, rfl⟩
instance : TU Tryz.prog 9 .string := ⟨Tryz.underlying9⟩
instance : TI Tryz.prog 9 1 16 (.string ⟨#[]⟩) := .of_map (by kernel_rfl)
instance : TA Tryz.prog 10 false := ⟨_, Tryz.underlying10, rfl⟩
instance : TN Tryz.prog 10 := ⟨_, Tryz.underlying10, rfl⟩
instance : TU Tryz.prog 10 .string := ⟨Tryz.underlying10⟩
instance : TI Tryz.prog 10 1 16 (.string ⟨#[]⟩) := .of_map (by kernel_rfl)
instance : TA Tryz.prog 11 false := ⟨_, Tryz.underlying11, rfl⟩
instance : TN Tryz.prog 11 := ⟨_, Tryz.underlying11, rfl⟩
instance : TU Tryz.prog 11 .string := ⟨Tryz.underlying11⟩
instance : TI Tryz.prog 11 1 16 (.string ⟨#[]⟩) := .of_map (by kernel_rfl)
instance : TA Tryz.prog 12 false := ⟨_, Tryz.underlying12, rfl⟩
instance : TN Tryz.prog 12 := ⟨_, Tryz.underlying12, rfl⟩
instance : TU Tryz.prog 12 (.int .u64) := ⟨Tryz.underlying12⟩
instance : TI Tryz.prog 12 1 8 (.int .u64 0) := .of_map (by kernel_rfl)
instance : TA Tryz.prog 13 true := ⟨_, Tryz.underlying13, rfl⟩
instance : TN Tryz.prog 13 := ⟨_, Tryz.underlying13, rfl⟩
instance : TF Tryz.prog 13 0 0 9 := ⟨_, _, Tryz.underlying13, rfl, rfl, rfl⟩
instance : TF Tryz.prog 13 1 1 12 := ⟨_, _, Tryz.underlying13, rfl, rfl, rfl⟩
instance : TS Tryz.prog 13 [(0, 1), (1, 1)] := ⟨_, Tryz.underlying13, fun _ _ => by kernel_rfl⟩
instance : TI Tryz.prog 13 2 24 (.agg #[(.string ⟨#[]⟩), (.int .u64 0)]) := .of_map (by kernel_rfl)
instance : TA Tryz.prog 14 true := ⟨_, Tryz.underlying14, rfl⟩
instance : TN Tryz.prog 14 := ⟨_, Tryz.underlying14, rfl⟩
instance : TF Tryz.prog 14 0 0 9 := ⟨_, _, Tryz.underlying14, rfl, rfl, rfl⟩
instance : TF Tryz.prog 14 1 1 12 := ⟨_, _, Tryz.underlying14, rfl, rfl, rfl⟩
instance : TS Tryz.prog 14 [(0, 1), (1, 1)] := ⟨_, Tryz.underlying14, fun _ _ => by kernel_rfl⟩
instance : TI Tryz.prog 14 2 24 (.agg #[(.string ⟨#[]⟩), (.int .u64 0)]) := .of_map (by kernel_rfl)
instance : TA Tryz.prog 15 false := ⟨_, Tryz.underlying15, rfl⟩
instance : TN Tryz.prog 15 := ⟨_, Tryz.underlying15, rfl⟩
instance : TU Tryz.prog 15 (.pointer 333) := ⟨Tryz.underlying15⟩
instance : TI Tryz.prog 15 1 8 (.pointer none) := .of_map (by kernel_rfl)
instance : TA Tryz.prog 16 false := ⟨_, Tryz.underlying16, rfl⟩
instance : TN Tryz.prog 16 := ⟨_, Tryz.underlying16, rfl⟩
instance : TU Tryz.prog 16 (.pointer 336) := ⟨Tryz.underlying16⟩
instance : TI Tryz.prog 16 1 8 (.pointer none) := .of_map (by kernel_rfl)
instance : TA Tryz.prog 17 false := ⟨_, Tryz.underlying17, rfl⟩
instance : TN Tryz.prog 17 := ⟨_, Tryz.underlying17, rfl⟩
instance : TU Tryz.prog 17 (.pointer 344) := ⟨Tryz.underlying17⟩
instance : TI Tryz.prog 17 1 8 (.pointer none) := .of_map (by kernel_rfl)
instance : TA Tryz.prog 18 true := ⟨_, Tryz.underlying18, rfl⟩
instance : TN Tryz.prog 18 := ⟨_, Tryz.underlying18, rfl⟩
instance : TF Tryz.prog 18 0 0 17 := ⟨_, _, Tryz.underlying18, rfl, rfl, rfl⟩
instance : TS Tryz.prog 18 [(0, 1)] := ⟨_, Tryz.underlying18, fun _ _ => by kernel_rfl⟩
instance : TI Tryz.prog 18 1 8 (.agg #[(.pointer none)]) := .of_map (by kernel_rfl)
instance : TA Tryz.prog 19 true := ⟨_, Tryz.underlying19, rfl⟩
instance : TN Tryz.prog 19 := ⟨_, Tryz.underlying19, rfl⟩
instance : TF Tryz.prog 19 0 0 17 := ⟨_, _, Tryz.underlying19, rfl, rfl, rfl⟩
instance : TS Tryz.prog 19 [(0, 1)] := ⟨_, Tryz.underlying19, fun _ _ => by kernel_rfl⟩
instance : TI Tryz.prog 19 1 8 (.agg #[(.pointer none)]) := .of_map (by kernel_rfl)
instance : TA Tryz.prog 20 false := ⟨_, Tryz.underlying20, rfl⟩
instance : TI Tryz.prog 20 1 16 .nilIface := .of_map (by kernel_rfl)
instance : TA Tryz.prog 21 false := ⟨_, Tryz.underlying21, rfl⟩
instance : TN Tryz.prog 21 := ⟨_, Tryz.underlying21, rfl⟩
instance : TU Tryz.prog 21 (.int .i32) := ⟨Tryz.underlying21⟩
instance : TI Tryz.prog 21 1 4 (.int .i32 0) := .of_map (by kernel_rfl)
instance : TA Tryz.prog 22 false := ⟨_, Tryz.underlying22, rfl⟩
instance : TN Tryz.prog 22 := ⟨_, Tryz.underlying22, rfl⟩
instance : TU Tryz.prog 22 (.slice 3) := ⟨Tryz.underlying22⟩
instance : TI Tryz.prog 22 1 24 (.slice none 0 0) := .of_map (by kernel_rfl)
instance : TA Tryz.prog 23 true := ⟨_, Tryz.underlying23, rfl⟩
instance : TN Tryz.prog 23 := ⟨_, Tryz.underlying23, rfl⟩
instance : TF Tryz.prog 23 0 0 3 := ⟨_, _, Tryz.underlying23, rfl, rfl, rfl⟩
instance : TF Tryz.prog 23 1 1 3 := ⟨_, _, Tryz.underlying23, rfl, rfl, rfl⟩
instance : TF Tryz.prog 23 2 2 3 := ⟨_, _, Tryz.underlying23, rfl, rfl, rfl⟩
instance : TF Tryz.prog 23 3 3 3 := ⟨_, _, Tryz.underlying23, rfl, rfl, rfl⟩
instance : TF Tryz.prog 23 4 4 3 := ⟨_, _, Tryz.underlying23, rfl, rfl, rfl⟩
instance : TF Tryz.prog 23 5 5 3 := ⟨_, _, Tryz.underlying23, rfl, rfl, rfl⟩
instance : TF Tryz.prog 23 6 6 22 := ⟨_, _, Tryz.underlying23, rfl, rfl, rfl⟩
instance : TF Tryz.prog 23 7 7 22 := ⟨_, _, Tryz.underlying23, rfl, rfl, rfl⟩
instance : TS Tryz.prog 23 [(0, 1), (1, 1), (2, 1), (3, 1), (4, 1), (5, 1), (6, 1), (7, 1)] := ⟨_, Tryz.underlying23, fun _ _ => by kernel_rfl⟩
instance : TI Tryz.prog 23 8 96 (.agg #[(.int .i64 0), (.int .i64 0), (.int .i64 0), (.int .i64 0), (.int .i64 0), (.int .i64 0), (.slice none 0 0), (.slice none 0 0)]) := .of_map (by kernel_rfl)
instance : TA Tryz.prog 24 true := ⟨_, Tryz.underlying24, rfl⟩
instance : TN Tryz.prog 24 := ⟨_, Tryz.underlying24, rfl⟩
instance : TF Tryz.prog 24 0 0 3 := ⟨_, _, Tryz.underlying24, rfl, rfl, rfl⟩
instance : TF Tryz.prog 24 1 1 3 := ⟨_, _, Tryz.underlying24, rfl, rfl, rfl⟩
instance : TF Tryz.prog 24 2 2 3 := ⟨_, _, Tryz.underlying24, rfl, rfl, rfl⟩
instance : TF Tryz.prog 24 3 3 3 := ⟨_, _, Tryz.underlying24, rfl, rfl, rfl⟩
instance : TF Tryz.prog 24 4 4 3 := ⟨_, _, Tryz.underlying24, rfl, rfl, rfl⟩
instance : TF Tryz.prog 24 5 5 3 := ⟨_, _, Tryz.underlying24, rfl, rfl, rfl⟩
instance : TF Tryz.prog 24 6 6 22 := ⟨_, _, Tryz.underlying24, rfl, rfl, rfl⟩
instance : TF Tryz.prog 24 7 7 22 := ⟨_, _, Tryz.underlying24, rfl, rfl, rfl⟩
instance : TS Tryz.prog 24 [(0, 1), (1, 1), (2, 1), (3, 1), (4, 1), (5, 1), (6, 1), (7, 1)] := ⟨_, Tryz.underlying24, fun _ _ => by kernel_rfl⟩
instance : TI Tryz.prog 24 8 96 (.agg #[(.int .i64 0), (.int .i64 0), (.int .i64 0), (.int .i64 0), (.int .i64 0), (.int .i64 0), (.slice none 0 0), (.slice none 0 0)]) := .of_map (by kernel_rfl)
instance : TA Tryz.prog 25 false := ⟨_, Tryz.underlying25, rfl⟩
instance : TN Tryz.prog 25 := ⟨_, Tryz.underlying25, rfl⟩
instance : TI Tryz.prog 25 1 8 .nilFunc := .of_map (by kernel_rfl)
instance : TA Tryz.prog 26 false := ⟨_, Tryz.underlying26, rfl⟩
instance : TN Tryz.prog 26 := ⟨_, Tryz.underlying26, rfl⟩
instance : TI Tryz.prog 26 1 8 .nilFunc := .of_map (by kernel_rfl)
instance : TA Tryz.prog 27 false := ⟨_, Tryz.underlying27, rfl⟩
instance : TN Tryz.prog 27 := ⟨_, Tryz.underlying27, rfl⟩
instance : TI Tryz.prog 27 1 8 .nilFunc := .of_map (by kernel_rfl)
instance : TA Tryz.prog 28 false := ⟨_, Tryz.underlying28, rfl⟩
instance : TN Tryz.prog 28 := ⟨_, Tryz.underlying28, rfl⟩
instance : TI Tryz.prog 28 1 8 .nilFunc := .of_map (by kernel_rfl)
instance : TA Tryz.prog 29 false := ⟨_, Tryz.underlying29, rfl⟩
instance : TN Tryz.prog 29 := ⟨_, Tryz.underlying29, rfl⟩
instance : TU Tryz.prog 29 (.slice 41) := ⟨Tryz.underlying29⟩
instance : TI Tryz.prog 29 1 24 (.slice none 0 0) := .of_map (by kernel_rfl)
instance : TA Tryz.prog 30 false := ⟨_, Tryz.underlying30, rfl⟩
instance : TN Tryz.prog 30 := ⟨_, Tryz.underlying30, rfl⟩
instance : TU Tryz.prog 30 (.slice 5) := ⟨Tryz.underlying30⟩
instance : TI Tryz.prog 30 1 24 (.slice none 0 0) := .of_map (by kernel_rfl)
instance : TA Tryz.prog 31 true := ⟨_, Tryz.underlying31, rfl⟩
instance : TN Tryz.prog 31 := ⟨_, Tryz.underlying31, rfl⟩
instance : TF Tryz.prog 31 0 0 24 := ⟨_, _, Tryz.underlying31, rfl, rfl, rfl⟩
instance : TF Tryz.prog 31 1 8 29 := ⟨_, _, Tryz.underlying31, rfl, rfl, rfl⟩
instance : TF Tryz.prog 31 2 9 30 := ⟨_, _, Tryz.underlying31, rfl, rfl, rfl⟩
instance : TS Tryz.prog 31 [(0, 8), (8, 1), (9, 1)] := ⟨_, Tryz.underlying31, fun _ _ => by kernel_rfl⟩
instance : TI Tryz.prog 31 10 144 (.agg #[(.int .i64 0), (.int .i64 0), (.int .i64 0), (.int .i64 0), (.int .i64 0), (.int .i64 0), (.slice none 0 0), (.slice none 0 0), (.slice none 0 0), (.slice none 0 0)]) := .of_map (by kernel_rfl)
instance : TA Tryz.prog 32 true := ⟨_, Tryz.underlying32, rfl⟩
instance : TN Tryz.prog 32 := ⟨_, Tryz.underlying32, rfl⟩
instance : TF Tryz.prog 32 0 0 24 := ⟨_, _, Tryz.underlying32, rfl, rfl, rfl⟩
instance : TF Tryz.prog 32 1 8 29 := ⟨_, _, Tryz.underlying32, rfl, rfl, rfl⟩
instance : TF Tryz.prog 32 2 9 30 := ⟨_, _, Tryz.underlying32, rfl, rfl, rfl⟩
instance : TS Tryz.prog 32 [(0, 8), (8, 1), (9, 1)] := ⟨_, Tryz.underlying32, fun _ _ => by kernel_rfl⟩
instance : TI Tryz.prog 32 10 144 (.agg #[(.int .i64 0), (.int .i64 0), (.int .i64 0), (.int .i64 0), (.int .i64 0), (.int .i64 0), (.slice none 0 0), (.slice none 0 0), (.slice none 0 0), (.slice none 0 0)]) := .of_map (by kernel_rfl)
instance : TA Tryz.prog 33 false := ⟨_, Tryz.underlying33, rfl⟩
instance : TN Tryz.prog 33 := ⟨_, Tryz.underlying33, rfl⟩
instance : TI Tryz.prog 33 1 8 .nilFunc := .of_map (by kernel_rfl)
instance : TA Tryz.prog 34 false := ⟨_, Tryz.underlying34, rfl⟩
instance : TN Tryz.prog 34 := ⟨_, Tryz.underlying34, rfl⟩
instance : TU Tryz.prog 34 (.pointer 92) := ⟨Tryz.underlying34⟩
instance : TI Tryz.prog 34 1 8 (.pointer none) := .of_map (by kernel_rfl)
instance : Meth Tryz.prog 34 "Busy" 31 := ⟨fun _ _ _ => by kernel_rfl⟩
instance : Meth Tryz.prog 34 "Events" 35 := ⟨fun _ _ _ => by kernel_rfl⟩
instance : Meth Tryz.prog 34 "Idle" 33 := ⟨fun _ _ _ => by kernel_rfl⟩
instance : Meth Tryz.prog 34 "Pick" 32 := ⟨fun _ _ _ => by kernel_rfl⟩
instance : Meth Tryz.prog 34 "Words" 43 := ⟨fun _ _ _ => by kernel_rfl⟩
instance : Meth Tryz.prog 34 "breadline/sched.begin" 69 := ⟨fun _ _ _ => by kernel_rfl⟩
instance : Meth Tryz.prog 34 "breadline/sched.told" 68 := ⟨fun _ _ _ => by kernel_rfl⟩
instance : TA Tryz.prog 35 false := ⟨_, Tryz.underlying35, rfl⟩
instance : TN Tryz.prog 35 := ⟨_, Tryz.underlying35, rfl⟩
instance : TI Tryz.prog 35 1 8 .nilFunc := .of_map (by kernel_rfl)
instance : TA Tryz.prog 36 false := ⟨_, Tryz.underlying36, rfl⟩
instance : TN Tryz.prog 36 := ⟨_, Tryz.underlying36, rfl⟩
instance : TI Tryz.prog 36 1 8 .nilFunc := .of_map (by kernel_rfl)
instance : TA Tryz.prog 37 false := ⟨_, Tryz.underlying37, rfl⟩
instance : TN Tryz.prog 37 := ⟨_, Tryz.underlying37, rfl⟩
instance : TU Tryz.prog 37 (.pointer 88) := ⟨Tryz.underlying37⟩
instance : TI Tryz.prog 37 1 8 (.pointer none) := .of_map (by kernel_rfl)
instance : Meth Tryz.prog 37 "All" 34 := ⟨fun _ _ _ => by kernel_rfl⟩
instance : Meth Tryz.prog 37 "Finish" 30 := ⟨fun _ _ _ => by kernel_rfl⟩
instance : TA Tryz.prog 38 false := ⟨_, Tryz.underlying38, rfl⟩
instance : TN Tryz.prog 38 := ⟨_, Tryz.underlying38, rfl⟩
instance : TI Tryz.prog 38 1 8 .nilFunc := .of_map (by kernel_rfl)
instance : TA Tryz.prog 39 false := ⟨_, Tryz.underlying39, rfl⟩
instance : TN Tryz.prog 39 := ⟨_, Tryz.underlying39, rfl⟩
instance : TI Tryz.prog 39 1 8 .nilFunc := .of_map (by kernel_rfl)
instance : TA Tryz.prog 40 false := ⟨_, Tryz.underlying40, rfl⟩
instance : TN Tryz.prog 40 := ⟨_, Tryz.underlying40, rfl⟩
instance : TI Tryz.prog 40 1 8 .nilFunc := .of_map (by kernel_rfl)
instance : TA Tryz.prog 41 false := ⟨_, Tryz.underlying41, rfl⟩
instance : TN Tryz.prog 41 := ⟨_, Tryz.underlying41, rfl⟩
instance : TU Tryz.prog 41 (.slice 70) := ⟨Tryz.underlying41⟩
instance : TI Tryz.prog 41 1 24 (.slice none 0 0) := .of_map (by kernel_rfl)
instance : TA Tryz.prog 42 false := ⟨_, Tryz.underlying42, rfl⟩
instance : TN Tryz.prog 42 := ⟨_, Tryz.underlying42, rfl⟩
instance : TA Tryz.prog 43 false := ⟨_, Tryz.underlying43, rfl⟩
instance : TN Tryz.prog 43 := ⟨_, Tryz.underlying43, rfl⟩
instance : TI Tryz.prog 43 1 8 .nilFunc := .of_map (by kernel_rfl)
instance : TA Tryz.prog 44 false := ⟨_, Tryz.underlying44, rfl⟩
instance : TN Tryz.prog 44 := ⟨_, Tryz.underlying44, rfl⟩
instance : TI Tryz.prog 44 1 8 .nilFunc := .of_map (by kernel_rfl)
instance : TA Tryz.prog 45 false := ⟨_, Tryz.underlying45, rfl⟩
instance : TN Tryz.prog 45 := ⟨_, Tryz.underlying45, rfl⟩
instance : TU Tryz.prog 45 (.slice 75) := ⟨Tryz.underlying45⟩
instance : TI Tryz.prog 45 1 24 (.slice none 0 0) := .of_map (by kernel_rfl)
instance : TA Tryz.prog 46 false := ⟨_, Tryz.underlying46, rfl⟩
instance : TN Tryz.prog 46 := ⟨_, Tryz.underlying46, rfl⟩
instance : TI Tryz.prog 46 1 8 .nilFunc := .of_map (by kernel_rfl)
instance : TA Tryz.prog 47 false := ⟨_, Tryz.underlying47, rfl⟩
instance : TN Tryz.prog 47 := ⟨_, Tryz.underlying47, rfl⟩
instance : TI Tryz.prog 47 1 8 .nilFunc := .of_map (by kernel_rfl)
instance : TA Tryz.prog 48 false := ⟨_, Tryz.underlying48, rfl⟩
instance : TN Tryz.prog 48 := ⟨_, Tryz.underlying48, rfl⟩
instance : TI Tryz.prog 48 1 8 .nilFunc := .of_map (by kernel_rfl)
instance : TA Tryz.prog 49 false := ⟨_, Tryz.underlying49, rfl⟩
instance : TN Tryz.prog 49 := ⟨_, Tryz.underlying49, rfl⟩
instance : TU Tryz.prog 49 (.pointer 56) := ⟨Tryz.underlying49⟩
instance : TI Tryz.prog 49 1 8 (.pointer none) := .of_map (by kernel_rfl)
instance : Meth Tryz.prog 49 "Busy" 76 := ⟨fun _ _ _ => by kernel_rfl⟩
instance : Meth Tryz.prog 49 "Idle" 52 := ⟨fun _ _ _ => by kernel_rfl⟩
instance : Meth Tryz.prog 49 "Pick" 53 := ⟨fun _ _ _ => by kernel_rfl⟩
instance : Meth Tryz.prog 49 "breadline/breadlineref16.event" 86 := ⟨fun _ _ _ => by kernel_rfl⟩
instance : TA Tryz.prog 50 false := ⟨_, Tryz.underlying50, rfl⟩
instance : TN Tryz.prog 50 := ⟨_, Tryz.underlying50, rfl⟩
instance : TI Tryz.prog 50 1 8 .nilFunc := .of_map (by kernel_rfl)
instance : TA Tryz.prog 51 false := ⟨_, Tryz.underlying51, rfl⟩
instance : TN Tryz.prog 51 := ⟨_, Tryz.underlying51, rfl⟩
instance : TI Tryz.prog 51 1 8 .nilFunc := .of_map (by kernel_rfl)
instance : TA Tryz.prog 52 false := ⟨_, Tryz.underlying52, rfl⟩
instance : TN Tryz.prog 52 := ⟨_, Tryz.underlying52, rfl⟩
instance : TI Tryz.prog 52 1 8 .nilFunc := .of_map (by kernel_rfl)
instance : TA Tryz.prog 53 false := ⟨_, Tryz.underlying53, rfl⟩
instance : TN Tryz.prog 53 := ⟨_, Tryz.underlying53, rfl⟩
instance : TU Tryz.prog 53 (.pointer 61) := ⟨Tryz.underlying53⟩
instance : TI Tryz.prog 53 1 8 (.pointer none) := .of_map (by kernel_rfl)
instance : Meth Tryz.prog 53 "Add" 158 := ⟨fun _ _ _ => by kernel_rfl⟩
instance : Meth Tryz.prog 53 "Cas" 169 := ⟨fun _ _ _ => by kernel_rfl⟩
instance : Meth Tryz.prog 53 "Load" 166 := ⟨fun _ _ _ => by kernel_rfl⟩
instance : Meth Tryz.prog 53 "Poke" 116 := ⟨fun _ _ _ => by kernel_rfl⟩
instance : Meth Tryz.prog 53 "Store" 161 := ⟨fun _ _ _ => by kernel_rfl⟩
instance : Meth Tryz.prog 53 "breadline/breadlineref03.log" 220 := ⟨fun _ _ _ => by kernel_rfl⟩
instance : TA Tryz.prog 54 false := ⟨_, Tryz.underlying54, rfl⟩
instance : TN Tryz.prog 54 := ⟨_, Tryz.underlying54, rfl⟩
instance : TU Tryz.prog 54 (.slice 121) := ⟨Tryz.underlying54⟩
instance : TI Tryz.prog 54 1 24 (.slice none 0 0) := .of_map (by kernel_rfl)
instance : TA Tryz.prog 55 true := ⟨_, Tryz.underlying55, rfl⟩
instance : TN Tryz.prog 55 := ⟨_, Tryz.underlying55, rfl⟩
instance : TF Tryz.prog 55 0 0 24 := ⟨_, _, Tryz.underlying55, rfl, rfl, rfl⟩
instance : TF Tryz.prog 55 1 8 53 := ⟨_, _, Tryz.underlying55, rfl, rfl, rfl⟩
instance : TF Tryz.prog 55 2 9 29 := ⟨_, _, Tryz.underlying55, rfl, rfl, rfl⟩
instance : TF Tryz.prog 55 3 10 22 := ⟨_, _, Tryz.underlying55, rfl, rfl, rfl⟩
instance : TF Tryz.prog 55 4 11 54 := ⟨_, _, Tryz.underlying55, rfl, rfl, rfl⟩
instance : TF Tryz.prog 55 5 12 45 := ⟨_, _, Tryz.underlying55, rfl, rfl, rfl⟩
instance : TS Tryz.prog 55 [(0, 8), (8, 1), (9, 1), (10, 1), (11, 1), (12, 1)] := ⟨_, Tryz.underlying55, fun _ _ => by kernel_rfl⟩
instance : TI Tryz.prog 55 13 200 (.agg #[(.int .i64 0), (.int .i64 0), (.int .i64 0), (.int .i64 0), (.int .i64 0), (.int .i64 0), (.slice none 0 0), (.slice none 0 0), (.pointer none), (.slice none 0 0), (.slice none 0 0), (.slice none 0 0), (.slice none 0 0)]) := .of_map (by kernel_rfl)
instance : TA Tryz.prog 56 true := ⟨_, Tryz.underlying56, rfl⟩
instance : TN Tryz.prog 56 := ⟨_, Tryz.underlying56, rfl⟩
instance : TF Tryz.prog 56 0 0 24 := ⟨_, _, Tryz.underlying56, rfl, rfl, rfl⟩
instance : TF Tryz.prog 56 1 8 53 := ⟨_, _, Tryz.underlying56, rfl, rfl, rfl⟩
instance : TF Tryz.prog 56 2 9 29 := ⟨_, _, Tryz.underlying56, rfl, rfl, rfl⟩
instance : TF Tryz.prog 56 3 10 22 := ⟨_, _, Tryz.underlying56, rfl, rfl, rfl⟩
instance : TF Tryz.prog 56 4 11 54 := ⟨_, _, Tryz.underlying56, rfl, rfl, rfl⟩
instance : TF Tryz.prog 56 5 12 45 := ⟨_, _, Tryz.underlying56, rfl, rfl, rfl⟩
instance : TS Tryz.prog 56 [(0, 8), (8, 1), (9, 1), (10, 1), (11, 1), (12, 1)] := ⟨_, Tryz.underlying56, fun _ _ => by kernel_rfl⟩
instance : TI Tryz.prog 56 13 200 (.agg #[(.int .i64 0), (.int .i64 0), (.int .i64 0), (.int .i64 0), (.int .i64 0), (.int .i64 0), (.slice none 0 0), (.slice none 0 0), (.pointer none), (.slice none 0 0), (.slice none 0 0), (.slice none 0 0), (.slice none 0 0)]) := .of_map (by kernel_rfl)
instance : TA Tryz.prog 57 false := ⟨_, Tryz.underlying57, rfl⟩
instance : TN Tryz.prog 57 := ⟨_, Tryz.underlying57, rfl⟩
instance : TI Tryz.prog 57 1 8 .nilFunc := .of_map (by kernel_rfl)
instance : TA Tryz.prog 58 false := ⟨_, Tryz.underlying58, rfl⟩
instance : TN Tryz.prog 58 := ⟨_, Tryz.underlying58, rfl⟩
instance : TI Tryz.prog 58 1 8 .nilFunc := .of_map (by kernel_rfl)
instance : TA Tryz.prog 59 false := ⟨_, Tryz.underlying59, rfl⟩
instance : TN Tryz.prog 59 := ⟨_, Tryz.underlying59, rfl⟩
instance : TU Tryz.prog 59 (.slice 197) := ⟨Tryz.underlying59⟩
instance : TI Tryz.prog 59 1 24 (.slice none 0 0) := .of_map (by kernel_rfl)
instance : TA Tryz.prog 60 true := ⟨_, Tryz.underlying60, rfl⟩
instance : TN Tryz.prog 60 := ⟨_, Tryz.underlying60, rfl⟩
instance : TF Tryz.prog 60 0 0 22 := ⟨_, _, Tryz.underlying60, rfl, rfl, rfl⟩
instance : TF Tryz.prog 60 1 1 59 := ⟨_, _, Tryz.underlying60, rfl, rfl, rfl⟩
instance : TS Tryz.prog 60 [(0, 1), (1, 1)] := ⟨_, Tryz.underlying60, fun _ _ => by kernel_rfl⟩
instance : TI Tryz.prog 60 2 48 (.agg #[(.slice none 0 0), (.slice none 0 0)]) := .of_map (by kernel_rfl)
instance : TA Tryz.prog 61 true := ⟨_, Tryz.underlying61, rfl⟩
instance : TN Tryz.prog 61 := ⟨_, Tryz.underlying61, rfl⟩
instance : TF Tryz.prog 61 0 0 22 := ⟨_, _, Tryz.underlying61, rfl, rfl, rfl⟩
instance : TF Tryz.prog 61 1 1 59 := ⟨_, _, Tryz.underlying61, rfl, rfl, rfl⟩
instance : TS Tryz.prog 61 [(0, 1), (1, 1)] := ⟨_, Tryz.underlying61, fun _ _ => by kernel_rfl⟩
instance : TI Tryz.prog 61 2 48 (.agg #[(.slice none 0 0), (.slice none 0 0)]) := .of_map (by kernel_rfl)
instance : TA Tryz.prog 62 false := ⟨_, Tryz.underlying62, rfl⟩
instance : TN Tryz.prog 62 := ⟨_, Tryz.underlying62, rfl⟩
instance : TI Tryz.prog 62 1 8 .nilFunc := .of_map (by kernel_rfl)
instance : TA Tryz.prog 63 false := ⟨_, Tryz.underlying63, rfl⟩
instance : TN Tryz.prog 63 := ⟨_, Tryz.underlying63, rfl⟩
instance : TU Tryz.prog 63 (.int .u32) := ⟨Tryz.underlying63⟩
instance : TI Tryz.prog 63 1 4 (.int .u32 0) := .of_map (by kernel_rfl)
instance : TA Tryz.prog 64 false := ⟨_, Tryz.underlying64, rfl⟩
instance : TN Tryz.prog 64 := ⟨_, Tryz.underlying64, rfl⟩
instance : TI Tryz.prog 64 1 8 .nilFunc := .of_map (by kernel_rfl)
instance : TA Tryz.prog 65 false := ⟨_, Tryz.underlying65, rfl⟩
instance : TN Tryz.prog 65 := ⟨_, Tryz.underlying65, rfl⟩
instance : TI Tryz.prog 65 1 8 .nilFunc := .of_map (by kernel_rfl)
instance : TA Tryz.prog 66 false := ⟨_, Tryz.underlying66, rfl⟩
instance : TN Tryz.prog 66 := ⟨_, Tryz.underlying66, rfl⟩
instance : TI Tryz.prog 66 1 8 .nilFunc := .of_map (by kernel_rfl)
instance : TA Tryz.prog 67 false := ⟨_, Tryz.underlying67, rfl⟩
instance : TN Tryz.prog 67 := ⟨_, Tryz.underlying67, rfl⟩
instance : TI Tryz.prog 67 1 8 .nilFunc := .of_map (by kernel_rfl)
instance : TA Tryz.prog 68 false := ⟨_, Tryz.underlying68, rfl⟩
instance : TN Tryz.prog 68 := ⟨_, Tryz.underlying68, rfl⟩
instance : TI Tryz.prog 68 1 8 .nilFunc := .of_map (by kernel_rfl)
instance : TA Tryz.prog 69 true := ⟨_, Tryz.underlying69, rfl⟩
instance : TN Tryz.prog 69 := ⟨_, Tryz.underlying69, rfl⟩
instance : TF Tryz.prog 69 0 0 3 := ⟨_, _, Tryz.underlying69, rfl, rfl, rfl⟩
instance : TF Tryz.prog 69 1 1 3 := ⟨_, _, Tryz.underlying69, rfl, rfl, rfl⟩
instance : TF Tryz.prog 69 2 2 3 := ⟨_, _, Tryz.underlying69, rfl, rfl, rfl⟩
instance : TS Tryz.prog 69 [(0, 1), (1, 1), (2, 1)] := ⟨_, Tryz.underlying69, fun _ _ => by kernel_rfl⟩
instance : TI Tryz.prog 69 3 24 (.agg #[(.int .i64 0), (.int .i64 0), (.int .i64 0)]) := .of_map (by kernel_rfl)
instance : TA Tryz.prog 70 true := ⟨_, Tryz.underlying70, rfl⟩
instance : TN Tryz.prog 70 := ⟨_, Tryz.underlying70, rfl⟩
instance : TF Tryz.prog 70 0 0 3 := ⟨_, _, Tryz.underlying70, rfl, rfl, rfl⟩
instance : TF Tryz.prog 70 1 1 3 := ⟨_, _, Tryz.underlying70, rfl, rfl, rfl⟩
instance : TF Tryz.prog 70 2 2 3 := ⟨_, _, Tryz.underlying70, rfl, rfl, rfl⟩
instance : TS Tryz.prog 70 [(0, 1), (1, 1), (2, 1)] := ⟨_, Tryz.underlying70, fun _ _ => by kernel_rfl⟩
instance : TI Tryz.prog 70 3 24 (.agg #[(.int .i64 0), (.int .i64 0), (.int .i64 0)]) := .of_map (by kernel_rfl)
instance : TA Tryz.prog 71 false := ⟨_, Tryz.underlying71, rfl⟩
instance : TN Tryz.prog 71 := ⟨_, Tryz.underlying71, rfl⟩
instance : TU Tryz.prog 71 (.int .i64) := ⟨Tryz.underlying71⟩
instance : TI Tryz.prog 71 1 8 (.int .i64 0) := .of_map (by kernel_rfl)
instance : TA Tryz.prog 72 true := ⟨_, Tryz.underlying72, rfl⟩
instance : TN Tryz.prog 72 := ⟨_, Tryz.underlying72, rfl⟩
instance : TF Tryz.prog 72 0 0 71 := ⟨_, _, Tryz.underlying72, rfl, rfl, rfl⟩
instance : TF Tryz.prog 72 1 1 3 := ⟨_, _, Tryz.underlying72, rfl, rfl, rfl⟩
instance : TF Tryz.prog 72 2 2 4 := ⟨_, _, Tryz.underlying72, rfl, rfl, rfl⟩
instance : TF Tryz.prog 72 3 3 3 := ⟨_, _, Tryz.underlying72, rfl, rfl, rfl⟩
instance : TS Tryz.prog 72 [(0, 1), (1, 1), (2, 1), (3, 1)] := ⟨_, Tryz.underlying72, fun _ _ => by kernel_rfl⟩
instance : TI Tryz.prog 72 4 32 (.agg #[(.int .i64 0), (.int .i64 0), (.bool false), (.int .i64 0)]) := .of_map (by kernel_rfl)
instance : TA Tryz.prog 73 true := ⟨_, Tryz.underlying73, rfl⟩
instance : TN Tryz.prog 73 := ⟨_, Tryz.underlying73, rfl⟩
instance : TF Tryz.prog 73 0 0 71 := ⟨_, _, Tryz.underlying73, rfl, rfl, rfl⟩
instance : TF Tryz.prog 73 1 1 3 := ⟨_, _, Tryz.underlying73, rfl, rfl, rfl⟩
instance : TF Tryz.prog 73 2 2 4 := ⟨_, _, Tryz.underlying73, rfl, rfl, rfl⟩
instance : TF Tryz.prog 73 3 3 3 := ⟨_, _, Tryz.underlying73, rfl, rfl, rfl⟩
instance : TS Tryz.prog 73 [(0, 1), (1, 1), (2, 1), (3, 1)] := ⟨_, Tryz.underlying73, fun _ _ => by kernel_rfl⟩
instance : TI Tryz.prog 73 4 32 (.agg #[(.int .i64 0), (.int .i64 0), (.bool false), (.int .i64 0)]) := .of_map (by kernel_rfl)
instance : TA Tryz.prog 74 true := ⟨_, Tryz.underlying74, rfl⟩
instance : TN Tryz.prog 74 := ⟨_, Tryz.underlying74, rfl⟩
instance : TF Tryz.prog 74 0 0 3 := ⟨_, _, Tryz.underlying74, rfl, rfl, rfl⟩
instance : TF Tryz.prog 74 1 1 3 := ⟨_, _, Tryz.underlying74, rfl, rfl, rfl⟩
instance : TF Tryz.prog 74 2 2 3 := ⟨_, _, Tryz.underlying74, rfl, rfl, rfl⟩
instance : TF Tryz.prog 74 3 3 70 := ⟨_, _, Tryz.underlying74, rfl, rfl, rfl⟩
instance : TF Tryz.prog 74 4 6 73 := ⟨_, _, Tryz.underlying74, rfl, rfl, rfl⟩
instance : TS Tryz.prog 74 [(0, 1), (1, 1), (2, 1), (3, 3), (6, 4)] := ⟨_, Tryz.underlying74, fun _ _ => by kernel_rfl⟩
instance : TI Tryz.prog 74 10 80 (.agg #[(.int .i64 0), (.int .i64 0), (.int .i64 0), (.int .i64 0), (.int .i64 0), (.int .i64 0), (.int .i64 0), (.int .i64 0), (.bool false), (.int .i64 0)]) := .of_map (by kernel_rfl)
instance : TA Tryz.prog 75 true := ⟨_, Tryz.underlying75, rfl⟩
instance : TN Tryz.prog 75 := ⟨_, Tryz.underlying75, rfl⟩
instance : TF Tryz.prog 75 0 0 3 := ⟨_, _, Tryz.underlying75, rfl, rfl, rfl⟩
instance : TF Tryz.prog 75 1 1 3 := ⟨_, _, Tryz.underlying75, rfl, rfl, rfl⟩
instance : TF Tryz.prog 75 2 2 3 := ⟨_, _, Tryz.underlying75, rfl, rfl, rfl⟩
instance : TF Tryz.prog 75 3 3 70 := ⟨_, _, Tryz.underlying75, rfl, rfl, rfl⟩
instance : TF Tryz.prog 75 4 6 73 := ⟨_, _, Tryz.underlying75, rfl, rfl, rfl⟩
instance : TS Tryz.prog 75 [(0, 1), (1, 1), (2, 1), (3, 3), (6, 4)] := ⟨_, Tryz.underlying75, fun _ _ => by kernel_rfl⟩
instance : TI Tryz.prog 75 10 80 (.agg #[(.int .i64 0), (.int .i64 0), (.int .i64 0), (.int .i64 0), (.int .i64 0), (.int .i64 0), (.int .i64 0), (.int .i64 0), (.bool false), (.int .i64 0)]) := .of_map (by kernel_rfl)
instance : TA Tryz.prog 76 false := ⟨_, Tryz.underlying76, rfl⟩
instance : TN Tryz.prog 76 := ⟨_, Tryz.underlying76, rfl⟩
instance : TI Tryz.prog 76 1 8 .nilFunc := .of_map (by kernel_rfl)
instance : TA Tryz.prog 77 false := ⟨_, Tryz.underlying77, rfl⟩
instance : TN Tryz.prog 77 := ⟨_, Tryz.underlying77, rfl⟩
instance : TI Tryz.prog 77 1 8 .nilFunc := .of_map (by kernel_rfl)
instance : TA Tryz.prog 78 false := ⟨_, Tryz.underlying78, rfl⟩
instance : TN Tryz.prog 78 := ⟨_, Tryz.underlying78, rfl⟩
instance : TI Tryz.prog 78 1 8 .nilFunc := .of_map (by kernel_rfl)
instance : TA Tryz.prog 79 false := ⟨_, Tryz.underlying79, rfl⟩
instance : TN Tryz.prog 79 := ⟨_, Tryz.underlying79, rfl⟩
instance : TI Tryz.prog 79 1 8 .nilFunc := .of_map (by kernel_rfl)
instance : TA Tryz.prog 80 false := ⟨_, Tryz.underlying80, rfl⟩
instance : TN Tryz.prog 80 := ⟨_, Tryz.underlying80, rfl⟩
instance : TU Tryz.prog 80 (.int .u16) := ⟨Tryz.underlying80⟩
instance : TI Tryz.prog 80 1 2 (.int .u16 0) := .of_map (by kernel_rfl)
instance : TA Tryz.prog 81 false := ⟨_, Tryz.underlying81, rfl⟩
instance : TN Tryz.prog 81 := ⟨_, Tryz.underlying81, rfl⟩
instance : TI Tryz.prog 81 1 8 .nilFunc := .of_map (by kernel_rfl)
instance : TA Tryz.prog 82 false := ⟨_, Tryz.underlying82, rfl⟩
instance : TN Tryz.prog 82 := ⟨_, Tryz.underlying82, rfl⟩
instance : TA Tryz.prog 83 false := ⟨_, Tryz.underlying83, rfl⟩
instance : TN Tryz.prog 83 := ⟨_, Tryz.underlying83, rfl⟩
instance : TI Tryz.prog 83 1 8 .nilFunc := .of_map (by kernel_rfl)
instance : TA Tryz.prog 84 false := ⟨_, Tryz.underlying84, rfl⟩
instance : TN Tryz.prog 84 := ⟨_, Tryz.underlying84, rfl⟩
instance : TI Tryz.prog 84 1 8 .nilFunc := .of_map (by kernel_rfl)
instance : TA Tryz.prog 85 false := ⟨_, Tryz.underlying85, rfl⟩
instance : TN Tryz.prog 85 := ⟨_, Tryz.underlying85, rfl⟩
instance : TI Tryz.prog 85 1 8 .nilFunc := .of_map (by kernel_rfl)
instance : TA Tryz.prog 86 false := ⟨_, Tryz.underlying86, rfl⟩
instance : TN Tryz.prog 86 := ⟨_, Tryz.underlying86, rfl⟩
instance : TI Tryz.prog 86 1 8 .nilFunc := .of_map (by kernel_rfl)
instance : TA Tryz.prog 87 true := ⟨_, Tryz.underlying87, rfl⟩
instance : TN Tryz.prog 87 := ⟨_, Tryz.underlying87, rfl⟩
instance : TF Tryz.prog 87 0 0 3 := ⟨_, _, Tryz.underlying87, rfl, rfl, rfl⟩
instance : TS Tryz.prog 87 [(0, 1)] := ⟨_, Tryz.underlying87, fun _ _ => by kernel_rfl⟩
instance : TI Tryz.prog 87 1 8 (.agg #[(.int .i64 0)]) := .of_map (by kernel_rfl)
instance : TA Tryz.prog 88 true := ⟨_, Tryz.underlying88, rfl⟩
instance : TN Tryz.prog 88 := ⟨_, Tryz.underlying88, rfl⟩
instance : TF Tryz.prog 88 0 0 3 := ⟨_, _, Tryz.underlying88, rfl, rfl, rfl⟩
instance : TS Tryz.prog 88 [(0, 1)] := ⟨_, Tryz.underlying88, fun _ _ => by kernel_rfl⟩
instance : TI Tryz.prog 88 1 8 (.agg #[(.int .i64 0)]) := .of_map (by kernel_rfl)
instance : TA Tryz.prog 89 false := ⟨_, Tryz.underlying89, rfl⟩
instance : TN Tryz.prog 89 := ⟨_, Tryz.underlying89, rfl⟩
instance : TU Tryz.prog 89 (.pointer 143) := ⟨Tryz.underlying89⟩
instance : TI Tryz.prog 89 1 8 (.pointer none) := .of_map (by kernel_rfl)
instance : Meth Tryz.prog 89 "Add" 285 := ⟨fun _ _ _ => by kernel_rfl⟩
instance : Meth Tryz.prog 89 "Cas" 278 := ⟨fun _ _ _ => by kernel_rfl⟩
instance : Meth Tryz.prog 89 "Load" 275 := ⟨fun _ _ _ => by kernel_rfl⟩
instance : Meth Tryz.prog 89 "Log" 104 := ⟨fun _ _ _ => by kernel_rfl⟩
instance : Meth Tryz.prog 89 "Poke" 144 := ⟨fun _ _ _ => by kernel_rfl⟩
instance : Meth Tryz.prog 89 "Store" 308 := ⟨fun _ _ _ => by kernel_rfl⟩
instance : Meth Tryz.prog 89 "Words" 77 := ⟨fun _ _ _ => by kernel_rfl⟩
instance : Meth Tryz.prog 89 "breadline/mem.access" 304 := ⟨fun _ _ _ => by kernel_rfl⟩
instance : TA Tryz.prog 90 false := ⟨_, Tryz.underlying90, rfl⟩
instance : TN Tryz.prog 90 := ⟨_, Tryz.underlying90, rfl⟩
instance : TU Tryz.prog 90 (.slice 97) := ⟨Tryz.underlying90⟩
instance : TI Tryz.prog 90 1 24 (.slice none 0 0) := .of_map (by kernel_rfl)
instance : TA Tryz.prog 91 true := ⟨_, Tryz.underlying91, rfl⟩
instance : TN Tryz.prog 91 := ⟨_, Tryz.underlying91, rfl⟩
instance : TF Tryz.prog 91 0 0 24 := ⟨_, _, Tryz.underlying91, rfl, rfl, rfl⟩
instance : TF Tryz.prog 91 1 8 89 := ⟨_, _, Tryz.underlying91, rfl, rfl, rfl⟩
instance : TF Tryz.prog 91 2 9 90 := ⟨_, _, Tryz.underlying91, rfl, rfl, rfl⟩
instance : TF Tryz.prog 91 3 10 45 := ⟨_, _, Tryz.underlying91, rfl, rfl, rfl⟩
instance : TS Tryz.prog 91 [(0, 8), (8, 1), (9, 1), (10, 1)] := ⟨_, Tryz.underlying91, fun _ _ => by kernel_rfl⟩
instance : TI Tryz.prog 91 11 152 (.agg #[(.int .i64 0), (.int .i64 0), (.int .i64 0), (.int .i64 0), (.int .i64 0), (.int .i64 0), (.slice none 0 0), (.slice none 0 0), (.pointer none), (.slice none 0 0), (.slice none 0 0)]) := .of_map (by kernel_rfl)
instance : TA Tryz.prog 92 true := ⟨_, Tryz.underlying92, rfl⟩
instance : TN Tryz.prog 92 := ⟨_, Tryz.underlying92, rfl⟩
instance : TF Tryz.prog 92 0 0 24 := ⟨_, _, Tryz.underlying92, rfl, rfl, rfl⟩
instance : TF Tryz.prog 92 1 8 89 := ⟨_, _, Tryz.underlying92, rfl, rfl, rfl⟩
instance : TF Tryz.prog 92 2 9 90 := ⟨_, _, Tryz.underlying92, rfl, rfl, rfl⟩
instance : TF Tryz.prog 92 3 10 45 := ⟨_, _, Tryz.underlying92, rfl, rfl, rfl⟩
instance : TS Tryz.prog 92 [(0, 8), (8, 1), (9, 1), (10, 1)] := ⟨_, Tryz.underlying92, fun _ _ => by kernel_rfl⟩
instance : TI Tryz.prog 92 11 152 (.agg #[(.int .i64 0), (.int .i64 0), (.int .i64 0), (.int .i64 0), (.int .i64 0), (.int .i64 0), (.slice none 0 0), (.slice none 0 0), (.pointer none), (.slice none 0 0), (.slice none 0 0)]) := .of_map (by kernel_rfl)
instance : TA Tryz.prog 93 false := ⟨_, Tryz.underlying93, rfl⟩
instance : TI Tryz.prog 93 1 16 .nilIface := .of_map (by kernel_rfl)
instance : TA Tryz.prog 94 false := ⟨_, Tryz.underlying94, rfl⟩
instance : TI Tryz.prog 94 1 16 .nilIface := .of_map (by kernel_rfl)
instance : TA Tryz.prog 95 true := ⟨_, Tryz.underlying95, rfl⟩
instance : TN Tryz.prog 95 := ⟨_, Tryz.underlying95, rfl⟩
instance : TF Tryz.prog 95 0 0 41 := ⟨_, _, Tryz.underlying95, rfl, rfl, rfl⟩
instance : TF Tryz.prog 95 1 1 70 := ⟨_, _, Tryz.underlying95, rfl, rfl, rfl⟩
instance : TF Tryz.prog 95 2 4 94 := ⟨_, _, Tryz.underlying95, rfl, rfl, rfl⟩
instance : TS Tryz.prog 95 [(0, 1), (1, 3), (4, 1)] := ⟨_, Tryz.underlying95, fun _ _ => by kernel_rfl⟩
instance : TI Tryz.prog 95 5 64 (.agg #[(.slice none 0 0), (.int .i64 0), (.int .i64 0), (.int .i64 0), .nilIface]) := .of_map (by kernel_rfl)
instance : TA Tryz.prog 96 true := ⟨_, Tryz.underlying96, rfl⟩
instance : TN Tryz.prog 96 := ⟨_, Tryz.underlying96, rfl⟩
instance : TF Tryz.prog 96 0 0 41 := ⟨_, _, Tryz.underlying96, rfl, rfl, rfl⟩
instance : TF Tryz.prog 96 1 1 70 := ⟨_, _, Tryz.underlying96, rfl, rfl, rfl⟩
instance : TF Tryz.prog 96 2 4 94 := ⟨_, _, Tryz.underlying96, rfl, rfl, rfl⟩
instance : TS Tryz.prog 96 [(0, 1), (1, 3), (4, 1)] := ⟨_, Tryz.underlying96, fun _ _ => by kernel_rfl⟩
instance : TI Tryz.prog 96 5 64 (.agg #[(.slice none 0 0), (.int .i64 0), (.int .i64 0), (.int .i64 0), .nilIface]) := .of_map (by kernel_rfl)
instance : TA Tryz.prog 97 false := ⟨_, Tryz.underlying97, rfl⟩
instance : TN Tryz.prog 97 := ⟨_, Tryz.underlying97, rfl⟩
instance : TU Tryz.prog 97 (.pointer 96) := ⟨Tryz.underlying97⟩
instance : TI Tryz.prog 97 1 8 (.pointer none) := .of_map (by kernel_rfl)
instance : Meth Tryz.prog 97 "breadline/sched.idle" 67 := ⟨fun _ _ _ => by kernel_rfl⟩
instance : TA Tryz.prog 98 false := ⟨_, Tryz.underlying98, rfl⟩
instance : TN Tryz.prog 98 := ⟨_, Tryz.underlying98, rfl⟩
instance : TI Tryz.prog 98 1 8 .nilFunc := .of_map (by kernel_rfl)
instance : TA Tryz.prog 99 false := ⟨_, Tryz.underlying99, rfl⟩
instance : TN Tryz.prog 99 := ⟨_, Tryz.underlying99, rfl⟩
instance : TI Tryz.prog 99 1 8 .nilFunc := .of_map (by kernel_rfl)
instance : TA Tryz.prog 100 false := ⟨_, Tryz.underlying100, rfl⟩
instance : TN Tryz.prog 100 := ⟨_, Tryz.underlying100, rfl⟩
instance : TI Tryz.prog 100 1 8 .nilFunc := .of_map (by kernel_rfl)
instance : TA Tryz.prog 101 false := ⟨_, Tryz.underlying101, rfl⟩
instance : TN Tryz.prog 101 := ⟨_, Tryz.underlying101, rfl⟩
instance : TI Tryz.prog 101 1 8 .nilFunc := .of_map (by kernel_rfl)
instance : TA Tryz.prog 102 false := ⟨_, Tryz.underlying102, rfl⟩
instance : TN Tryz.prog 102 := ⟨_, Tryz.underlying102, rfl⟩
instance : TI Tryz.prog 102 1 8 .nilFunc := .of_map (by kernel_rfl)
instance : TA Tryz.prog 103 false := ⟨_, Tryz.underlying103, rfl⟩
instance : TN Tryz.prog 103 := ⟨_, Tryz.underlying103, rfl⟩
instance : TI Tryz.prog 103 1 8 .nilFunc := .of_map (by kernel_rfl)
instance : TA Tryz.prog 104 false := ⟨_, Tryz.underlying104, rfl⟩
instance : TN Tryz.prog 104 := ⟨_, Tryz.underlying104, rfl⟩
instance : TI Tryz.prog 104 1 8 .nilFunc := .of_map (by kernel_rfl)
instance : TA Tryz.prog 105 false := ⟨_, Tryz.underlying105, rfl⟩
instance : TN Tryz.prog 105 := ⟨_, Tryz.underlying105, rfl⟩
instance : TI Tryz.prog 105 1 8 .nilFunc := .of_map (by kernel_rfl)
instance : TA Tryz.prog 106 false := ⟨_, Tryz.underlying106, rfl⟩
instance : TN Tryz.prog 106 := ⟨_, Tryz.underlying106, rfl⟩
instance : TI Tryz.prog 106 1 8 .nilFunc := .of_map (by kernel_rfl)
instance : TA Tryz.prog 107 false := ⟨_, Tryz.underlying107, rfl⟩
instance : TN Tryz.prog 107 := ⟨_, Tryz.underlying107, rfl⟩
instance : TI Tryz.prog 107 1 8 .nilFunc := .of_map (by kernel_rfl)
instance : TA Tryz.prog 108 false := ⟨_, Tryz.underlying108, rfl⟩
instance : TN Tryz.prog 108 := ⟨_, Tryz.underlying108, rfl⟩
instance : TI Tryz.prog 108 1 8 .nilFunc := .of_map (by kernel_rfl)
instance : TA Tryz.prog 109 false := ⟨_, Tryz.underlying109, rfl⟩
instance : TN Tryz.prog 109 := ⟨_, Tryz.underlying109, rfl⟩
instance : TI Tryz.prog 109 1 8 .nilFunc := .of_map (by kernel_rfl)
instance : TA Tryz.prog 110 false := ⟨_, Tryz.underlying110, rfl⟩
instance : TN Tryz.prog 110 := ⟨_, Tryz.underlying110, rfl⟩
instance : TU Tryz.prog 110 (.pointer 113) := ⟨Tryz.underlying110⟩
instance : TI Tryz.prog 110 1 8 (.pointer none) := .of_map (by kernel_rfl)
instance : Meth Tryz.prog 110 "breadline/bound.begun" 79 := ⟨fun _ _ _ => by kernel_rfl⟩
instance : Meth Tryz.prog 110 "breadline/bound.ended" 81 := ⟨fun _ _ _ => by kernel_rfl⟩
instance : Meth Tryz.prog 110 "breadline/bound.look" 80 := ⟨fun _ _ _ => by kernel_rfl⟩
instance : TA Tryz.prog 111 false := ⟨_, Tryz.underlying111, rfl⟩
instance : TN Tryz.prog 111 := ⟨_, Tryz.underlying111, rfl⟩
instance : TU Tryz.prog 111 (.map 3 145) := ⟨Tryz.underlying111⟩
instance : TI Tryz.prog 111 1 8 (.map none) := .of_map (by kernel_rfl)
instance : TA Tryz.prog 112 true := ⟨_, Tryz.underlying112, rfl⟩
instance : TN Tryz.prog 112 := ⟨_, Tryz.underlying112, rfl⟩
instance : TF Tryz.prog 112 0 0 24 := ⟨_, _, Tryz.underlying112, rfl, rfl, rfl⟩
instance : TF Tryz.prog 112 1 8 3 := ⟨_, _, Tryz.underlying112, rfl, rfl, rfl⟩
instance : TF Tryz.prog 112 2 9 111 := ⟨_, _, Tryz.underlying112, rfl, rfl, rfl⟩
instance : TS Tryz.prog 112 [(0, 8), (8, 1), (9, 1)] := ⟨_, Tryz.underlying112, fun _ _ => by kernel_rfl⟩
instance : TI Tryz.prog 112 10 112 (.agg #[(.int .i64 0), (.int .i64 0), (.int .i64 0), (.int .i64 0), (.int .i64 0), (.int .i64 0), (.slice none 0 0), (.slice none 0 0), (.int .i64 0), (.map none)]) := .of_map (by kernel_rfl)
instance : TA Tryz.prog 113 true := ⟨_, Tryz.underlying113, rfl⟩
instance : TN Tryz.prog 113 := ⟨_, Tryz.underlying113, rfl⟩
instance : TF Tryz.prog 113 0 0 24 := ⟨_, _, Tryz.underlying113, rfl, rfl, rfl⟩
instance : TF Tryz.prog 113 1 8 3 := ⟨_, _, Tryz.underlying113, rfl, rfl, rfl⟩
instance : TF Tryz.prog 113 2 9 111 := ⟨_, _, Tryz.underlying113, rfl, rfl, rfl⟩
instance : TS Tryz.prog 113 [(0, 8), (8, 1), (9, 1)] := ⟨_, Tryz.underlying113, fun _ _ => by kernel_rfl⟩
instance : TI Tryz.prog 113 10 112 (.agg #[(.int .i64 0), (.int .i64 0), (.int .i64 0), (.int .i64 0), (.int .i64 0), (.int .i64 0), (.slice none 0 0), (.slice none 0 0), (.int .i64 0), (.map none)]) := .of_map (by kernel_rfl)
instance : TA Tryz.prog 114 false := ⟨_, Tryz.underlying114, rfl⟩
instance : TN Tryz.prog 114 := ⟨_, Tryz.underlying114, rfl⟩
instance : TI Tryz.prog 114 1 8 .nilFunc := .of_map (by kernel_rfl)
instance : TA Tryz.prog 115 false := ⟨_, Tryz.underlying115, rfl⟩
instance : TN Tryz.prog 115 := ⟨_, Tryz.underlying115, rfl⟩
instance : TI Tryz.prog 115 1 8 .nilFunc := .of_map (by kernel_rfl)
instance : TA Tryz.prog 116 false := ⟨_, Tryz.underlying116, rfl⟩
instance : TN Tryz.prog 116 := ⟨_, Tryz.underlying116, rfl⟩
instance : TI Tryz.prog 116 1 8 .nilFunc := .of_map (by kernel_rfl)
instance : TA Tryz.prog 117 false := ⟨_, Tryz.underlying117, rfl⟩
instance : TN Tryz.prog 117 := ⟨_, Tryz.underlying117, rfl⟩
instance : TU Tryz.prog 117 (.slice 22) := ⟨Tryz.underlying117⟩
instance : TI Tryz.prog 117 1 24 (.slice none 0 0) := .of_map (by kernel_rfl)
instance : TA Tryz.prog 118 false := ⟨_, Tryz.underlying118, rfl⟩
instance : TN Tryz.prog 118 := ⟨_, Tryz.underlying118, rfl⟩
instance : TI Tryz.prog 118 1 8 .nilFunc := .of_map (by kernel_rfl)
instance : TA Tryz.prog 119 false := ⟨_, Tryz.underlying119, rfl⟩
instance : TN Tryz.prog 119 := ⟨_, Tryz.underlying119, rfl⟩
instance : TI Tryz.prog 119 1 8 .nilFunc := .of_map (by kernel_rfl)
instance : TA Tryz.prog 120 false := ⟨_, Tryz.underlying120, rfl⟩
instance : TN Tryz.prog 120 := ⟨_, Tryz.underlying120, rfl⟩
instance : TI Tryz.prog 120 1 8 .nilFunc := .of_map (by kernel_rfl)
instance : TA Tryz.prog 121 false := ⟨_, Tryz.underlying121, rfl⟩
instance : TN Tryz.prog 121 := ⟨_, Tryz.underlying121, rfl⟩
instance : TU Tryz.prog 121 (.pointer 159) := ⟨Tryz.underlying121⟩
instance : TI Tryz.prog 121 1 8 (.pointer none) := .of_map (by kernel_rfl)
instance : Meth Tryz.prog 121 "Ans" 91 := ⟨fun _ _ _ => by kernel_rfl⟩
instance : Meth Tryz.prog 121 "Step" 90 := ⟨fun _ _ _ => by kernel_rfl⟩
instance : TA Tryz.prog 122 false := ⟨_, Tryz.underlying122, rfl⟩
instance : TN Tryz.prog 122 := ⟨_, Tryz.underlying122, rfl⟩
instance : TI Tryz.prog 122 1 8 .nilFunc := .of_map (by kernel_rfl)
instance : TA Tryz.prog 123 false := ⟨_, Tryz.underlying123, rfl⟩
instance : TN Tryz.prog 123 := ⟨_, Tryz.underlying123, rfl⟩
instance : TI Tryz.prog 123 1 8 .nilFunc := .of_map (by kernel_rfl)
instance : TA Tryz.prog 124 false := ⟨_, Tryz.underlying124, rfl⟩
instance : TN Tryz.prog 124 := ⟨_, Tryz.underlying124, rfl⟩
instance : TI Tryz.prog 124 1 8 .nilFunc := .of_map (by kernel_rfl)
instance : TA Tryz.prog 125 false := ⟨_, Tryz.underlying125, rfl⟩
instance : TN Tryz.prog 125 := ⟨_, Tryz.underlying125, rfl⟩
instance : TI Tryz.prog 125 1 8 .nilFunc := .of_map (by kernel_rfl)
instance : TA Tryz.prog 126 false := ⟨_, Tryz.underlying126, rfl⟩
instance : TN Tryz.prog 126 := ⟨_, Tryz.underlying126, rfl⟩
instance : TI Tryz.prog 126 1 8 .nilFunc := .of_map (by kernel_rfl)
instance : TA Tryz.prog 127 false := ⟨_, Tryz.underlying127, rfl⟩
instance : TN Tryz.prog 127 := ⟨_, Tryz.underlying127, rfl⟩
instance : TA Tryz.prog 128 false := ⟨_, Tryz.underlying128, rfl⟩
instance : TN Tryz.prog 128 := ⟨_, Tryz.underlying128, rfl⟩
instance : TI Tryz.prog 128 1 8 .nilFunc := .of_map (by kernel_rfl)
instance : TA Tryz.prog 129 false := ⟨_, Tryz.underlying129, rfl⟩
instance : TN Tryz.prog 129 := ⟨_, Tryz.underlying129, rfl⟩
instance : TI Tryz.prog 129 1 8 .nilFunc := .of_map (by kernel_rfl)
instance : TA Tryz.prog 130 false := ⟨_, Tryz.underlying130, rfl⟩
instance : TN Tryz.prog 130 := ⟨_, Tryz.underlying130, rfl⟩
instance : TU Tryz.prog 130 (.pointer 185) := ⟨Tryz.underlying130⟩
instance : TI Tryz.prog 130 1 8 (.pointer none) := .of_map (by kernel_rfl)
instance : Meth Tryz.prog 130 "breadline/crew.closed" 96 := ⟨fun _ _ _ => by kernel_rfl⟩
instance : Meth Tryz.prog 130 "breadline/crew.picked" 95 := ⟨fun _ _ _ => by kernel_rfl⟩
instance : Meth Tryz.prog 130 "breadline/crew.some" 97 := ⟨fun _ _ _ => by kernel_rfl⟩
instance : TA Tryz.prog 131 false := ⟨_, Tryz.underlying131, rfl⟩
instance : TN Tryz.prog 131 := ⟨_, Tryz.underlying131, rfl⟩
instance : TI Tryz.prog 131 1 8 .nilFunc := .of_map (by kernel_rfl)
instance : TA Tryz.prog 132 false := ⟨_, Tryz.underlying132, rfl⟩
instance : TN Tryz.prog 132 := ⟨_, Tryz.underlying132, rfl⟩
instance : TI Tryz.prog 132 1 8 .nilFunc := .of_map (by kernel_rfl)
instance : TA Tryz.prog 133 false := ⟨_, Tryz.underlying133, rfl⟩
instance : TN Tryz.prog 133 := ⟨_, Tryz.underlying133, rfl⟩
instance : TI Tryz.prog 133 1 8 .nilFunc := .of_map (by kernel_rfl)
instance : TA Tryz.prog 134 false := ⟨_, Tryz.underlying134, rfl⟩
instance : TN Tryz.prog 134 := ⟨_, Tryz.underlying134, rfl⟩
instance : TI Tryz.prog 134 1 8 .nilFunc := .of_map (by kernel_rfl)
instance : TA Tryz.prog 135 false := ⟨_, Tryz.underlying135, rfl⟩
instance : TN Tryz.prog 135 := ⟨_, Tryz.underlying135, rfl⟩
instance : TI Tryz.prog 135 1 8 .nilFunc := .of_map (by kernel_rfl)
instance : TA Tryz.prog 136 false := ⟨_, Tryz.underlying136, rfl⟩
instance : TN Tryz.prog 136 := ⟨_, Tryz.underlying136, rfl⟩
instance : TI Tryz.prog 136 1 8 .nilFunc := .of_map (by kernel_rfl)
instance : TA Tryz.prog 137 false := ⟨_, Tryz.underlying137, rfl⟩
instance : TN Tryz.prog 137 := ⟨_, Tryz.underlying137, rfl⟩
instance : TI Tryz.prog 137 1 8 .nilFunc := .of_map (by kernel_rfl)
instance : TA Tryz.prog 138 false := ⟨_, Tryz.underlying138, rfl⟩
instance : TN Tryz.prog 138 := ⟨_, Tryz.underlying138, rfl⟩
instance : TI Tryz.prog 138 1 8 .nilFunc := .of_map (by kernel_rfl)
instance : TA Tryz.prog 139 false := ⟨_, Tryz.underlying139, rfl⟩
instance : TN Tryz.prog 139 := ⟨_, Tryz.underlying139, rfl⟩
instance : TI Tryz.prog 139 1 8 .nilFunc := .of_map (by kernel_rfl)
instance : TA Tryz.prog 140 false := ⟨_, Tryz.underlying140, rfl⟩
instance : TN Tryz.prog 140 := ⟨_, Tryz.underlying140, rfl⟩
instance : TI Tryz.prog 140 1 8 .nilFunc := .of_map (by kernel_rfl)
instance : TA Tryz.prog 141 false := ⟨_, Tryz.underlying141, rfl⟩
instance : TN Tryz.prog 141 := ⟨_, Tryz.underlying141, rfl⟩
instance : TI Tryz.prog 141 1 8 .nilFunc := .of_map (by kernel_rfl)
instance : TA Tryz.prog 142 true := ⟨_, Tryz.underlying142, rfl⟩
instance : TN Tryz.prog 142 := ⟨_, Tryz.underlying142, rfl⟩
instance : TF Tryz.prog 142 0 0 22 := ⟨_, _, Tryz.underlying142, rfl, rfl, rfl⟩
instance : TF Tryz.prog 142 1 1 59 := ⟨_, _, Tryz.underlying142, rfl, rfl, rfl⟩
instance : TS Tryz.prog 142 [(0, 1), (1, 1)] := ⟨_, Tryz.underlying142, fun _ _ => by kernel_rfl⟩
instance : TI Tryz.prog 142 2 48 (.agg #[(.slice none 0 0), (.slice none 0 0)]) := .of_map (by kernel_rfl)
instance : TA Tryz.prog 143 true := ⟨_, Tryz.underlying143, rfl⟩
instance : TN Tryz.prog 143 := ⟨_, Tryz.underlying143, rfl⟩
instance : TF Tryz.prog 143 0 0 22 := ⟨_, _, Tryz.underlying143, rfl, rfl, rfl⟩
instance : TF Tryz.prog 143 1 1 59 := ⟨_, _, Tryz.underlying143, rfl, rfl, rfl⟩
instance : TS Tryz.prog 143 [(0, 1), (1, 1)] := ⟨_, Tryz.underlying143, fun _ _ => by kernel_rfl⟩
instance : TI Tryz.prog 143 2 48 (.agg #[(.slice none 0 0), (.slice none 0 0)]) := .of_map (by kernel_rfl)
instance : TA Tryz.prog 144 false := ⟨_, Tryz.underlying144, rfl⟩
instance : TN Tryz.prog 144 := ⟨_, Tryz.underlying144, rfl⟩
instance : TI Tryz.prog 144 1 8 .nilFunc := .of_map (by kernel_rfl)
instance : TA Tryz.prog 145 false := ⟨_, Tryz.underlying145, rfl⟩
instance : TN Tryz.prog 145 := ⟨_, Tryz.underlying145, rfl⟩
instance : TU Tryz.prog 145 (.pointer 148) := ⟨Tryz.underlying145⟩
instance : TI Tryz.prog 145 1 8 (.pointer none) := .of_map (by kernel_rfl)
instance : TA Tryz.prog 146 true := ⟨_, Tryz.underlying146, rfl⟩
instance : TN Tryz.prog 146 := ⟨_, Tryz.underlying146, rfl⟩
instance : TU Tryz.prog 146 (.array 12 4) := ⟨Tryz.underlying146⟩
instance : TI Tryz.prog 146 12 12 (.agg #[(.bool false), (.bool false), (.bool false), (.bool false), (.bool false), (.bool false), (.bool false), (.bool false), (.bool false), (.bool false), (.bool false), (.bool false)]) := .of_map (by kernel_rfl)
instance : TA Tryz.prog 147 true := ⟨_, Tryz.underlying147, rfl⟩
instance : TN Tryz.prog 147 := ⟨_, Tryz.underlying147, rfl⟩
instance : TF Tryz.prog 147 0 0 3 := ⟨_, _, Tryz.underlying147, rfl, rfl, rfl⟩
instance : TF Tryz.prog 147 1 1 146 := ⟨_, _, Tryz.underlying147, rfl, rfl, rfl⟩
instance : TS Tryz.prog 147 [(0, 1), (1, 12)] := ⟨_, Tryz.underlying147, fun _ _ => by kernel_rfl⟩
instance : TI Tryz.prog 147 13 24 (.agg #[(.int .i64 0), (.bool false), (.bool false), (.bool false), (.bool false), (.bool false), (.bool false), (.bool false), (.bool false), (.bool false), (.bool false), (.bool false), (.bool false)]) := .of_map (by kernel_rfl)
instance : TA Tryz.prog 148 true := ⟨_, Tryz.underlying148, rfl⟩
instance : TN Tryz.prog 148 := ⟨_, Tryz.underlying148, rfl⟩
instance : TF Tryz.prog 148 0 0 3 := ⟨_, _, Tryz.underlying148, rfl, rfl, rfl⟩
instance : TF Tryz.prog 148 1 1 146 := ⟨_, _, Tryz.underlying148, rfl, rfl, rfl⟩
instance : TS Tryz.prog 148 [(0, 1), (1, 12)] := ⟨_, Tryz.underlying148, fun _ _ => by kernel_rfl⟩
instance : TI Tryz.prog 148 13 24 (.agg #[(.int .i64 0), (.bool false), (.bool false), (.bool false), (.bool false), (.bool false), (.bool false), (.bool false), (.bool false), (.bool false), (.bool false), (.bool false), (.bool false)]) := .of_map (by kernel_rfl)
instance : TA Tryz.prog 149 false := ⟨_, Tryz.underlying149, rfl⟩
instance : TN Tryz.prog 149 := ⟨_, Tryz.underlying149, rfl⟩
instance : TI Tryz.prog 149 1 8 .nilFunc := .of_map (by kernel_rfl)
instance : TA Tryz.prog 150 false := ⟨_, Tryz.underlying150, rfl⟩
instance : TN Tryz.prog 150 := ⟨_, Tryz.underlying150, rfl⟩
instance : TI Tryz.prog 150 1 8 .nilFunc := .of_map (by kernel_rfl)
instance : TA Tryz.prog 151 false := ⟨_, Tryz.underlying151, rfl⟩
instance : TN Tryz.prog 151 := ⟨_, Tryz.underlying151, rfl⟩
instance : TI Tryz.prog 151 1 8 .nilFunc := .of_map (by kernel_rfl)
instance : TA Tryz.prog 152 false := ⟨_, Tryz.underlying152, rfl⟩
instance : TN Tryz.prog 152 := ⟨_, Tryz.underlying152, rfl⟩
instance : TI Tryz.prog 152 1 8 .nilFunc := .of_map (by kernel_rfl)
instance : TA Tryz.prog 153 false := ⟨_, Tryz.underlying153, rfl⟩
instance : TN Tryz.prog 153 := ⟨_, Tryz.underlying153, rfl⟩
instance : TI Tryz.prog 153 1 8 .nilFunc := .of_map (by kernel_rfl)
instance : TA Tryz.prog 154 false := ⟨_, Tryz.underlying154, rfl⟩
instance : TN Tryz.prog 154 := ⟨_, Tryz.underlying154, rfl⟩
instance : TU Tryz.prog 154 (.pointer 211) := ⟨Tryz.underlying154⟩
instance : TI Tryz.prog 154 1 8 (.pointer none) := .of_map (by kernel_rfl)
instance : Meth Tryz.prog 154 "Ans" 131 := ⟨fun _ _ _ => by kernel_rfl⟩
instance : Meth Tryz.prog 154 "Step" 127 := ⟨fun _ _ _ => by kernel_rfl⟩
instance : Meth Tryz.prog 154 "breadline/breadlineref12.added" 165 := ⟨fun _ _ _ => by kernel_rfl⟩
instance : Meth Tryz.prog 154 "breadline/breadlineref12.claimed" 155 := ⟨fun _ _ _ => by kernel_rfl⟩
instance : Meth Tryz.prog 154 "breadline/breadlineref12.pool" 218 := ⟨fun _ _ _ => by kernel_rfl⟩
instance : Meth Tryz.prog 154 "breadline/breadlineref12.pooled" 157 := ⟨fun _ _ _ => by kernel_rfl⟩
instance : TA Tryz.prog 155 false := ⟨_, Tryz.underlying155, rfl⟩
instance : TN Tryz.prog 155 := ⟨_, Tryz.underlying155, rfl⟩
instance : TU Tryz.prog 155 (.pointer 213) := ⟨Tryz.underlying155⟩
instance : TI Tryz.prog 155 1 8 (.pointer none) := .of_map (by kernel_rfl)
instance : Meth Tryz.prog 155 "Ans" 132 := ⟨fun _ _ _ => by kernel_rfl⟩
instance : Meth Tryz.prog 155 "Step" 128 := ⟨fun _ _ _ => by kernel_rfl⟩
instance : Meth Tryz.prog 155 "breadline/breadlineref13.added" 170 := ⟨fun _ _ _ => by kernel_rfl⟩
instance : Meth Tryz.prog 155 "breadline/breadlineref13.refused" 168 := ⟨fun _ _ _ => by kernel_rfl⟩
instance : TA Tryz.prog 156 false := ⟨_, Tryz.underlying156, rfl⟩
instance : TN Tryz.prog 156 := ⟨_, Tryz.underlying156, rfl⟩
instance : TU Tryz.prog 156 (.pointer 215) := ⟨Tryz.underlying156⟩
instance : TI Tryz.prog 156 1 8 (.pointer none) := .of_map (by kernel_rfl)
instance : Meth Tryz.prog 156 "Ans" 133 := ⟨fun _ _ _ => by kernel_rfl⟩
instance : Meth Tryz.prog 156 "Step" 129 := ⟨fun _ _ _ => by kernel_rfl⟩
instance : TA Tryz.prog 157 false := ⟨_, Tryz.underlying157, rfl⟩
instance : TN Tryz.prog 157 := ⟨_, Tryz.underlying157, rfl⟩
instance : TU Tryz.prog 157 (.pointer 217) := ⟨Tryz.underlying157⟩
instance : TI Tryz.prog 157 1 8 (.pointer none) := .of_map (by kernel_rfl)
instance : Meth Tryz.prog 157 "Ans" 134 := ⟨fun _ _ _ => by kernel_rfl⟩
instance : Meth Tryz.prog 157 "Step" 130 := ⟨fun _ _ _ => by kernel_rfl⟩
instance : Meth Tryz.prog 157 "breadline/breadlineref07.closed" 172 := ⟨fun _ _ _ => by kernel_rfl⟩
instance : Meth Tryz.prog 157 "breadline/breadlineref07.word" 171 := ⟨fun _ _ _ => by kernel_rfl⟩
instance : TA Tryz.prog 158 true := ⟨_, Tryz.underlying158, rfl⟩
instance : TN Tryz.prog 158 := ⟨_, Tryz.underlying158, rfl⟩
instance : TF Tryz.prog 158 0 0 3 := ⟨_, _, Tryz.underlying158, rfl, rfl, rfl⟩
instance : TF Tryz.prog 158 1 1 154 := ⟨_, _, Tryz.underlying158, rfl, rfl, rfl⟩
instance : TF Tryz.prog 158 2 2 155 := ⟨_, _, Tryz.underlying158, rfl, rfl, rfl⟩
instance : TF Tryz.prog 158 3 3 156 := ⟨_, _, Tryz.underlying158, rfl, rfl, rfl⟩
instance : TF Tryz.prog 158 4 4 157 := ⟨_, _, Tryz.underlying158, rfl, rfl, rfl⟩
instance : TS Tryz.prog 158 [(0, 1), (1, 1), (2, 1), (3, 1), (4, 1)] := ⟨_, Tryz.underlying158, fun _ _ => by kernel_rfl⟩
instance : TI Tryz.prog 158 5 40 (.agg #[(.int .i64 0), (.pointer none), (.pointer none), (.pointer none), (.pointer none)]) := .of_map (by kernel_rfl)
instance : TA Tryz.prog 159 true := ⟨_, Tryz.underlying159, rfl⟩
instance : TN Tryz.prog 159 := ⟨_, Tryz.underlying159, rfl⟩
instance : TF Tryz.prog 159 0 0 3 := ⟨_, _, Tryz.underlying159, rfl, rfl, rfl⟩
instance : TF Tryz.prog 159 1 1 154 := ⟨_, _, Tryz.underlying159, rfl, rfl, rfl⟩
instance : TF Tryz.prog 159 2 2 155 := ⟨_, _, Tryz.underlying159, rfl, rfl, rfl⟩
instance : TF Tryz.prog 159 3 3 156 := ⟨_, _, Tryz.underlying159, rfl, rfl, rfl⟩
instance : TF Tryz.prog 159 4 4 157 := ⟨_, _, Tryz.underlying159, rfl, rfl, rfl⟩
instance : TS Tryz.prog 159 [(0, 1), (1, 1), (2, 1), (3, 1), (4, 1)] := ⟨_, Tryz.underlying159, fun _ _ => by kernel_rfl⟩
instance : TI Tryz.prog 159 5 40 (.agg #[(.int .i64 0), (.pointer none), (.pointer none), (.pointer none), (.pointer none)]) := .of_map (by kernel_rfl)
instance : TA Tryz.prog 160 false := ⟨_, Tryz.underlying160, rfl⟩
instance : TN Tryz.prog 160 := ⟨_, Tryz.underlying160, rfl⟩
instance : TI Tryz.prog 160 1 8 .nilFunc := .of_map (by kernel_rfl)
instance : TA Tryz.prog 161 false := ⟨_, Tryz.underlying161, rfl⟩
instance : TN Tryz.prog 161 := ⟨_, Tryz.underlying161, rfl⟩
instance : TI Tryz.prog 161 1 8 .nilFunc := .of_map (by kernel_rfl)
instance : TA Tryz.prog 162 false := ⟨_, Tryz.underlying162, rfl⟩
instance : TN Tryz.prog 162 := ⟨_, Tryz.underlying162, rfl⟩
instance : TI Tryz.prog 162 1 8 .nilFunc := .of_map (by kernel_rfl)
instance : TA Tryz.prog 163 false := ⟨_, Tryz.underlying163, rfl⟩
instance : TN Tryz.prog 163 := ⟨_, Tryz.underlying163, rfl⟩
instance : TI Tryz.prog 163 1 8 .nilFunc := .of_map (by kernel_rfl)
instance : TA Tryz.prog 164 false := ⟨_, Tryz.underlying164, rfl⟩
instance : TN Tryz.prog 164 := ⟨_, Tryz.underlying164, rfl⟩
instance : TI Tryz.prog 164 1 8 .nilFunc := .of_map (by kernel_rfl)
instance : TA Tryz.prog 165 false := ⟨_, Tryz.underlying165, rfl⟩
instance : TN Tryz.prog 165 := ⟨_, Tryz.underlying165, rfl⟩
instance : TI Tryz.prog 165 1 8 .nilFunc := .of_map (by kernel_rfl)
instance : TA Tryz.prog 166 false := ⟨_, Tryz.underlying166, rfl⟩
instance : TN Tryz.prog 166 := ⟨_, Tryz.underlying166, rfl⟩
instance : TU Tryz.prog 166 (.pointer 174) := ⟨Tryz.underlying166⟩
instance : TI Tryz.prog 166 1 8 (.pointer none) := .of_map (by kernel_rfl)
instance : Meth Tryz.prog 166 "breadline/crew.told" 234 := ⟨fun _ _ _ => by kernel_rfl⟩
instance : TA Tryz.prog 167 true := ⟨_, Tryz.underlying167, rfl⟩
instance : TN Tryz.prog 167 := ⟨_, Tryz.underlying167, rfl⟩
instance : TS Tryz.prog 167 [] := ⟨_, Tryz.underlying167, fun _ _ => by kernel_rfl⟩
instance : TI Tryz.prog 167 0 0 (.agg #[]) := .of_map (by kernel_rfl)
instance : TA Tryz.prog 168 true := ⟨_, Tryz.underlying168, rfl⟩
instance : TN Tryz.prog 168 := ⟨_, Tryz.underlying168, rfl⟩
instance : TS Tryz.prog 168 [] := ⟨_, Tryz.underlying168, fun _ _ => by kernel_rfl⟩
instance : TI Tryz.prog 168 0 0 (.agg #[]) := .of_map (by kernel_rfl)
instance : TA Tryz.prog 169 true := ⟨_, Tryz.underlying169, rfl⟩
instance : TN Tryz.prog 169 := ⟨_, Tryz.underlying169, rfl⟩
instance : TF Tryz.prog 169 0 0 21 := ⟨_, _, Tryz.underlying169, rfl, rfl, rfl⟩
instance : TF Tryz.prog 169 1 1 63 := ⟨_, _, Tryz.underlying169, rfl, rfl, rfl⟩
instance : TS Tryz.prog 169 [(0, 1), (1, 1)] := ⟨_, Tryz.underlying169, fun _ _ => by kernel_rfl⟩
instance : TI Tryz.prog 169 2 8 (.agg #[(.int .i32 0), (.int .u32 0)]) := .of_map (by kernel_rfl)
instance : TA Tryz.prog 170 true := ⟨_, Tryz.underlying170, rfl⟩
instance : TN Tryz.prog 170 := ⟨_, Tryz.underlying170, rfl⟩
instance : TF Tryz.prog 170 0 0 21 := ⟨_, _, Tryz.underlying170, rfl, rfl, rfl⟩
instance : TF Tryz.prog 170 1 1 63 := ⟨_, _, Tryz.underlying170, rfl, rfl, rfl⟩
instance : TS Tryz.prog 170 [(0, 1), (1, 1)] := ⟨_, Tryz.underlying170, fun _ _ => by kernel_rfl⟩
instance : TI Tryz.prog 170 2 8 (.agg #[(.int .i32 0), (.int .u32 0)]) := .of_map (by kernel_rfl)
instance : TA Tryz.prog 171 true := ⟨_, Tryz.underlying171, rfl⟩
instance : TN Tryz.prog 171 := ⟨_, Tryz.underlying171, rfl⟩
instance : TF Tryz.prog 171 0 0 168 := ⟨_, _, Tryz.underlying171, rfl, rfl, rfl⟩
instance : TF Tryz.prog 171 1 0 170 := ⟨_, _, Tryz.underlying171, rfl, rfl, rfl⟩
instance : TS Tryz.prog 171 [(0, 0), (0, 2)] := ⟨_, Tryz.underlying171, fun _ _ => by kernel_rfl⟩
instance : TI Tryz.prog 171 2 8 (.agg #[(.int .i32 0), (.int .u32 0)]) := .of_map (by kernel_rfl)
instance : TA Tryz.prog 172 true := ⟨_, Tryz.underlying172, rfl⟩
instance : TN Tryz.prog 172 := ⟨_, Tryz.underlying172, rfl⟩
instance : TF Tryz.prog 172 0 0 168 := ⟨_, _, Tryz.underlying172, rfl, rfl, rfl⟩
instance : TF Tryz.prog 172 1 0 170 := ⟨_, _, Tryz.underlying172, rfl, rfl, rfl⟩
instance : TS Tryz.prog 172 [(0, 0), (0, 2)] := ⟨_, Tryz.underlying172, fun _ _ => by kernel_rfl⟩
instance : TI Tryz.prog 172 2 8 (.agg #[(.int .i32 0), (.int .u32 0)]) := .of_map (by kernel_rfl)
instance : TA Tryz.prog 173 true := ⟨_, Tryz.underlying173, rfl⟩
instance : TN Tryz.prog 173 := ⟨_, Tryz.underlying173, rfl⟩
instance : TF Tryz.prog 173 0 0 172 := ⟨_, _, Tryz.underlying173, rfl, rfl, rfl⟩
instance : TF Tryz.prog 173 1 2 24 := ⟨_, _, Tryz.underlying173, rfl, rfl, rfl⟩
instance : TF Tryz.prog 173 2 10 89 := ⟨_, _, Tryz.underlying173, rfl, rfl, rfl⟩
instance : TF Tryz.prog 173 3 11 45 := ⟨_, _, Tryz.underlying173, rfl, rfl, rfl⟩
instance : TS Tryz.prog 173 [(0, 2), (2, 8), (10, 1), (11, 1)] := ⟨_, Tryz.underlying173, fun _ _ => by kernel_rfl⟩
instance : TI Tryz.prog 173 12 136 (.agg #[(.int .i32 0), (.int .u32 0), (.int .i64 0), (.int .i64 0), (.int .i64 0), (.int .i64 0), (.int .i64 0), (.int .i64 0), (.slice none 0 0), (.slice none 0 0), (.pointer none), (.slice none 0 0)]) := .of_map (by kernel_rfl)
instance : TA Tryz.prog 174 true := ⟨_, Tryz.underlying174, rfl⟩
instance : TN Tryz.prog 174 := ⟨_, Tryz.underlying174, rfl⟩
instance : TF Tryz.prog 174 0 0 172 := ⟨_, _, Tryz.underlying174, rfl, rfl, rfl⟩
instance : TF Tryz.prog 174 1 2 24 := ⟨_, _, Tryz.underlying174, rfl, rfl, rfl⟩
instance : TF Tryz.prog 174 2 10 89 := ⟨_, _, Tryz.underlying174, rfl, rfl, rfl⟩
instance : TF Tryz.prog 174 3 11 45 := ⟨_, _, Tryz.underlying174, rfl, rfl, rfl⟩
instance : TS Tryz.prog 174 [(0, 2), (2, 8), (10, 1), (11, 1)] := ⟨_, Tryz.underlying174, fun _ _ => by kernel_rfl⟩
instance : TI Tryz.prog 174 12 136 (.agg #[(.int .i32 0), (.int .u32 0), (.int .i64 0), (.int .i64 0), (.int .i64 0), (.int .i64 0), (.int .i64 0), (.int .i64 0), (.slice none 0 0), (.slice none 0 0), (.pointer none), (.slice none 0 0)]) := .of_map (by kernel_rfl)
instance : TA Tryz.prog 175 false := ⟨_, Tryz.underlying175, rfl⟩
instance : TN Tryz.prog 175 := ⟨_, Tryz.underlying175, rfl⟩
instance : TU Tryz.prog 175 (.slice 186) := ⟨Tryz.underlying175⟩
instance : TI Tryz.prog 175 1 24 (.slice none 0 0) := .of_map (by kernel_rfl)
instance : TA Tryz.prog 176 false := ⟨_, Tryz.underlying176, rfl⟩
instance : TN Tryz.prog 176 := ⟨_, Tryz.underlying176, rfl⟩
instance : TU Tryz.prog 176 (.slice 4) := ⟨Tryz.underlying176⟩
instance : TI Tryz.prog 176 1 24 (.slice none 0 0) := .of_map (by kernel_rfl)
instance : TA Tryz.prog 177 true := ⟨_, Tryz.underlying177, rfl⟩
instance : TN Tryz.prog 177 := ⟨_, Tryz.underlying177, rfl⟩
instance : TS Tryz.prog 177 [] := ⟨_, Tryz.underlying177, fun _ _ => by kernel_rfl⟩
instance : TI Tryz.prog 177 0 0 (.agg #[]) := .of_map (by kernel_rfl)
instance : TA Tryz.prog 178 true := ⟨_, Tryz.underlying178, rfl⟩
instance : TN Tryz.prog 178 := ⟨_, Tryz.underlying178, rfl⟩
instance : TS Tryz.prog 178 [] := ⟨_, Tryz.underlying178, fun _ _ => by kernel_rfl⟩
instance : TI Tryz.prog 178 0 0 (.agg #[]) := .of_map (by kernel_rfl)
instance : TA Tryz.prog 179 false := ⟨_, Tryz.underlying179, rfl⟩
instance : TN Tryz.prog 179 := ⟨_, Tryz.underlying179, rfl⟩
instance : TU Tryz.prog 179 (.int .u64) := ⟨Tryz.underlying179⟩
instance : TI Tryz.prog 179 1 8 (.int .u64 0) := .of_map (by kernel_rfl)
instance : TA Tryz.prog 180 true := ⟨_, Tryz.underlying180, rfl⟩
instance : TN Tryz.prog 180 := ⟨_, Tryz.underlying180, rfl⟩
instance : TF Tryz.prog 180 0 0 177 := ⟨_, _, Tryz.underlying180, rfl, rfl, rfl⟩
instance : TF Tryz.prog 180 1 0 178 := ⟨_, _, Tryz.underlying180, rfl, rfl, rfl⟩
instance : TF Tryz.prog 180 2 0 179 := ⟨_, _, Tryz.underlying180, rfl, rfl, rfl⟩
instance : TS Tryz.prog 180 [(0, 0), (0, 0), (0, 1)] := ⟨_, Tryz.underlying180, fun _ _ => by kernel_rfl⟩
instance : TI Tryz.prog 180 1 8 (.agg #[(.int .u64 0)]) := .of_map (by kernel_rfl)
instance : TA Tryz.prog 181 true := ⟨_, Tryz.underlying181, rfl⟩
instance : TN Tryz.prog 181 := ⟨_, Tryz.underlying181, rfl⟩
instance : TF Tryz.prog 181 0 0 177 := ⟨_, _, Tryz.underlying181, rfl, rfl, rfl⟩
instance : TF Tryz.prog 181 1 0 178 := ⟨_, _, Tryz.underlying181, rfl, rfl, rfl⟩
instance : TF Tryz.prog 181 2 0 179 := ⟨_, _, Tryz.underlying181, rfl, rfl, rfl⟩
instance : TS Tryz.prog 181 [(0, 0), (0, 0), (0, 1)] := ⟨_, Tryz.underlying181, fun _ _ => by kernel_rfl⟩
instance : TI Tryz.prog 181 1 8 (.agg #[(.int .u64 0)]) := .of_map (by kernel_rfl)
instance : TA Tryz.prog 182 true := ⟨_, Tryz.underlying182, rfl⟩
instance : TN Tryz.prog 182 := ⟨_, Tryz.underlying182, rfl⟩
instance : TF Tryz.prog 182 0 0 168 := ⟨_, _, Tryz.underlying182, rfl, rfl, rfl⟩
instance : TF Tryz.prog 182 1 0 181 := ⟨_, _, Tryz.underlying182, rfl, rfl, rfl⟩
instance : TF Tryz.prog 182 2 1 63 := ⟨_, _, Tryz.underlying182, rfl, rfl, rfl⟩
instance : TS Tryz.prog 182 [(0, 0), (0, 1), (1, 1)] := ⟨_, Tryz.underlying182, fun _ _ => by kernel_rfl⟩
instance : TI Tryz.prog 182 2 16 (.agg #[(.int .u64 0), (.int .u32 0)]) := .of_map (by kernel_rfl)
instance : TA Tryz.prog 183 true := ⟨_, Tryz.underlying183, rfl⟩
instance : TN Tryz.prog 183 := ⟨_, Tryz.underlying183, rfl⟩
instance : TF Tryz.prog 183 0 0 168 := ⟨_, _, Tryz.underlying183, rfl, rfl, rfl⟩
instance : TF Tryz.prog 183 1 0 181 := ⟨_, _, Tryz.underlying183, rfl, rfl, rfl⟩
instance : TF Tryz.prog 183 2 1 63 := ⟨_, _, Tryz.underlying183, rfl, rfl, rfl⟩
instance : TS Tryz.prog 183 [(0, 0), (0, 1), (1, 1)] := ⟨_, Tryz.underlying183, fun _ _ => by kernel_rfl⟩
instance : TI Tryz.prog 183 2 16 (.agg #[(.int .u64 0), (.int .u32 0)]) := .of_map (by kernel_rfl)
instance : TA Tryz.prog 184 true := ⟨_, Tryz.underlying184, rfl⟩
instance : TN Tryz.prog 184 := ⟨_, Tryz.underlying184, rfl⟩
instance : TF Tryz.prog 184 0 0 166 := ⟨_, _, Tryz.underlying184, rfl, rfl, rfl⟩
instance : TF Tryz.prog 184 1 1 175 := ⟨_, _, Tryz.underlying184, rfl, rfl, rfl⟩
instance : TF Tryz.prog 184 2 2 176 := ⟨_, _, Tryz.underlying184, rfl, rfl, rfl⟩
instance : TF Tryz.prog 184 3 3 183 := ⟨_, _, Tryz.underlying184, rfl, rfl, rfl⟩
instance : TS Tryz.prog 184 [(0, 1), (1, 1), (2, 1), (3, 2)] := ⟨_, Tryz.underlying184, fun _ _ => by kernel_rfl⟩
instance : TI Tryz.prog 184 5 72 (.agg #[(.pointer none), (.slice none 0 0), (.slice none 0 0), (.int .u64 0), (.int .u32 0)]) := .of_map (by kernel_rfl)
instance : TA Tryz.prog 185 true := ⟨_, Tryz.underlying185, rfl⟩
instance : TN Tryz.prog 185 := ⟨_, Tryz.underlying185, rfl⟩
instance : TF Tryz.prog 185 0 0 166 := ⟨_, _, Tryz.underlying185, rfl, rfl, rfl⟩
instance : TF Tryz.prog 185 1 1 175 := ⟨_, _, Tryz.underlying185, rfl, rfl, rfl⟩
instance : TF Tryz.prog 185 2 2 176 := ⟨_, _, Tryz.underlying185, rfl, rfl, rfl⟩
instance : TF Tryz.prog 185 3 3 183 := ⟨_, _, Tryz.underlying185, rfl, rfl, rfl⟩
instance : TS Tryz.prog 185 [(0, 1), (1, 1), (2, 1), (3, 2)] := ⟨_, Tryz.underlying185, fun _ _ => by kernel_rfl⟩
instance : TI Tryz.prog 185 5 72 (.agg #[(.pointer none), (.slice none 0 0), (.slice none 0 0), (.int .u64 0), (.int .u32 0)]) := .of_map (by kernel_rfl)
instance : TA Tryz.prog 186 false := ⟨_, Tryz.underlying186, rfl⟩
instance : TN Tryz.prog 186 := ⟨_, Tryz.underlying186, rfl⟩
instance : TU Tryz.prog 186 (.pointer 189) := ⟨Tryz.underlying186⟩
instance : TI Tryz.prog 186 1 8 (.pointer none) := .of_map (by kernel_rfl)
instance : Meth Tryz.prog 186 "breadline/crew.begin" 233 := ⟨fun _ _ _ => by kernel_rfl⟩
instance : Meth Tryz.prog 186 "breadline/crew.live" 138 := ⟨fun _ _ _ => by kernel_rfl⟩
instance : Meth Tryz.prog 186 "breadline/crew.step" 188 := ⟨fun _ _ _ => by kernel_rfl⟩
instance : TA Tryz.prog 187 false := ⟨_, Tryz.underlying187, rfl⟩
instance : TN Tryz.prog 187 := ⟨_, Tryz.underlying187, rfl⟩
instance : TI Tryz.prog 187 1 8 (.chan none) := .of_map (by kernel_rfl)
instance : TA Tryz.prog 188 true := ⟨_, Tryz.underlying188, rfl⟩
instance : TN Tryz.prog 188 := ⟨_, Tryz.underlying188, rfl⟩
instance : TF Tryz.prog 188 0 0 166 := ⟨_, _, Tryz.underlying188, rfl, rfl, rfl⟩
instance : TF Tryz.prog 188 1 1 3 := ⟨_, _, Tryz.underlying188, rfl, rfl, rfl⟩
instance : TF Tryz.prog 188 2 2 41 := ⟨_, _, Tryz.underlying188, rfl, rfl, rfl⟩
instance : TF Tryz.prog 188 3 3 70 := ⟨_, _, Tryz.underlying188, rfl, rfl, rfl⟩
instance : TF Tryz.prog 188 4 6 94 := ⟨_, _, Tryz.underlying188, rfl, rfl, rfl⟩
instance : TF Tryz.prog 188 5 7 187 := ⟨_, _, Tryz.underlying188, rfl, rfl, rfl⟩
instance : TF Tryz.prog 188 6 8 187 := ⟨_, _, Tryz.underlying188, rfl, rfl, rfl⟩
instance : TS Tryz.prog 188 [(0, 1), (1, 1), (2, 1), (3, 3), (6, 1), (7, 1), (8, 1)] := ⟨_, Tryz.underlying188, fun _ _ => by kernel_rfl⟩
instance : TI Tryz.prog 188 9 96 (.agg #[(.pointer none), (.int .i64 0), (.slice none 0 0), (.int .i64 0), (.int .i64 0), (.int .i64 0), .nilIface, (.chan none), (.chan none)]) := .of_map (by kernel_rfl)
instance : TA Tryz.prog 189 true := ⟨_, Tryz.underlying189, rfl⟩
instance : TN Tryz.prog 189 := ⟨_, Tryz.underlying189, rfl⟩
instance : TF Tryz.prog 189 0 0 166 := ⟨_, _, Tryz.underlying189, rfl, rfl, rfl⟩
instance : TF Tryz.prog 189 1 1 3 := ⟨_, _, Tryz.underlying189, rfl, rfl, rfl⟩
instance : TF Tryz.prog 189 2 2 41 := ⟨_, _, Tryz.underlying189, rfl, rfl, rfl⟩
instance : TF Tryz.prog 189 3 3 70 := ⟨_, _, Tryz.underlying189, rfl, rfl, rfl⟩
instance : TF Tryz.prog 189 4 6 94 := ⟨_, _, Tryz.underlying189, rfl, rfl, rfl⟩
instance : TF Tryz.prog 189 5 7 187 := ⟨_, _, Tryz.underlying189, rfl, rfl, rfl⟩
instance : TF Tryz.prog 189 6 8 187 := ⟨_, _, Tryz.underlying189, rfl, rfl, rfl⟩
instance : TS Tryz.prog 189 [(0, 1), (1, 1), (2, 1), (3, 3), (6, 1), (7, 1), (8, 1)] := ⟨_, Tryz.underlying189, fun _ _ => by kernel_rfl⟩
instance : TI Tryz.prog 189 9 96 (.agg #[(.pointer none), (.int .i64 0), (.slice none 0 0), (.int .i64 0), (.int .i64 0), (.int .i64 0), .nilIface, (.chan none), (.chan none)]) := .of_map (by kernel_rfl)
instance : TA Tryz.prog 190 false := ⟨_, Tryz.underlying190, rfl⟩
instance : TN Tryz.prog 190 := ⟨_, Tryz.underlying190, rfl⟩
instance : TI Tryz.prog 190 1 8 .nilFunc := .of_map (by kernel_rfl)
instance : TA Tryz.prog 191 false := ⟨_, Tryz.underlying191, rfl⟩
instance : TN Tryz.prog 191 := ⟨_, Tryz.underlying191, rfl⟩
instance : TU Tryz.prog 191 (.pointer 183) := ⟨Tryz.underlying191⟩
instance : TI Tryz.prog 191 1 8 (.pointer none) := .of_map (by kernel_rfl)
instance : Meth Tryz.prog 191 "Add" 137 := ⟨fun _ _ _ => by kernel_rfl⟩
instance : Meth Tryz.prog 191 "Done" 187 := ⟨fun _ _ _ => by kernel_rfl⟩
instance : Meth Tryz.prog 191 "Wait" 139 := ⟨fun _ _ _ => by kernel_rfl⟩
instance : TA Tryz.prog 192 false := ⟨_, Tryz.underlying192, rfl⟩
instance : TN Tryz.prog 192 := ⟨_, Tryz.underlying192, rfl⟩
instance : TI Tryz.prog 192 1 8 .nilFunc := .of_map (by kernel_rfl)
instance : TA Tryz.prog 193 false := ⟨_, Tryz.underlying193, rfl⟩
instance : TN Tryz.prog 193 := ⟨_, Tryz.underlying193, rfl⟩
instance : TI Tryz.prog 193 1 8 .nilFunc := .of_map (by kernel_rfl)
instance : TA Tryz.prog 194 false := ⟨_, Tryz.underlying194, rfl⟩
instance : TN Tryz.prog 194 := ⟨_, Tryz.underlying194, rfl⟩
instance : TI Tryz.prog 194 1 8 .nilFunc := .of_map (by kernel_rfl)
instance : TA Tryz.prog 195 false := ⟨_, Tryz.underlying195, rfl⟩
instance : TN Tryz.prog 195 := ⟨_, Tryz.underlying195, rfl⟩
instance : TI Tryz.prog 195 1 8 .nilFunc := .of_map (by kernel_rfl)
instance : TA Tryz.prog 196 true := ⟨_, Tryz.underlying196, rfl⟩
instance : TN Tryz.prog 196 := ⟨_, Tryz.underlying196, rfl⟩
instance : TF Tryz.prog 196 0 0 3 := ⟨_, _, Tryz.underlying196, rfl, rfl, rfl⟩
instance : TF Tryz.prog 196 1 1 3 := ⟨_, _, Tryz.underlying196, rfl, rfl, rfl⟩
instance : TF Tryz.prog 196 2 2 3 := ⟨_, _, Tryz.underlying196, rfl, rfl, rfl⟩
instance : TF Tryz.prog 196 3 3 3 := ⟨_, _, Tryz.underlying196, rfl, rfl, rfl⟩
instance : TF Tryz.prog 196 4 4 4 := ⟨_, _, Tryz.underlying196, rfl, rfl, rfl⟩
instance : TS Tryz.prog 196 [(0, 1), (1, 1), (2, 1), (3, 1), (4, 1)] := ⟨_, Tryz.underlying196, fun _ _ => by kernel_rfl⟩
instance : TI Tryz.prog 196 5 40 (.agg #[(.int .i64 0), (.int .i64 0), (.int .i64 0), (.int .i64 0), (.bool false)]) := .of_map (by kernel_rfl)
instance : TA Tryz.prog 197 true := ⟨_, Tryz.underlying197, rfl⟩
instance : TN Tryz.prog 197 := ⟨_, Tryz.underlying197, rfl⟩
instance : TF Tryz.prog 197 0 0 3 := ⟨_, _, Tryz.underlying197, rfl, rfl, rfl⟩
instance : TF Tryz.prog 197 1 1 3 := ⟨_, _, Tryz.underlying197, rfl, rfl, rfl⟩
instance : TF Tryz.prog 197 2 2 3 := ⟨_, _, Tryz.underlying197, rfl, rfl, rfl⟩
instance : TF Tryz.prog 197 3 3 3 := ⟨_, _, Tryz.underlying197, rfl, rfl, rfl⟩
instance : TF Tryz.prog 197 4 4 4 := ⟨_, _, Tryz.underlying197, rfl, rfl, rfl⟩
instance : TS Tryz.prog 197 [(0, 1), (1, 1), (2, 1), (3, 1), (4, 1)] := ⟨_, Tryz.underlying197, fun _ _ => by kernel_rfl⟩
instance : TI Tryz.prog 197 5 40 (.agg #[(.int .i64 0), (.int .i64 0), (.int .i64 0), (.int .i64 0), (.bool false)]) := .of_map (by kernel_rfl)
instance : TA Tryz.prog 198 true := ⟨_, Tryz.underlying198, rfl⟩
instance : TN Tryz.prog 198 := ⟨_, Tryz.underlying198, rfl⟩
instance : TF Tryz.prog 198 0 0 123 := ⟨_, _, Tryz.underlying198, rfl, rfl, rfl⟩
instance : TF Tryz.prog 198 1 1 139 := ⟨_, _, Tryz.underlying198, rfl, rfl, rfl⟩
instance : TS Tryz.prog 198 [(0, 1), (1, 1)] := ⟨_, Tryz.underlying198, fun _ _ => by kernel_rfl⟩
instance : TI Tryz.prog 198 2 16 (.agg #[.nilFunc, .nilFunc]) := .of_map (by kernel_rfl)
instance : TA Tryz.prog 199 true := ⟨_, Tryz.underlying199, rfl⟩
instance : TN Tryz.prog 199 := ⟨_, Tryz.underlying199, rfl⟩
instance : TF Tryz.prog 199 0 0 123 := ⟨_, _, Tryz.underlying199, rfl, rfl, rfl⟩
instance : TF Tryz.prog 199 1 1 139 := ⟨_, _, Tryz.underlying199, rfl, rfl, rfl⟩
instance : TS Tryz.prog 199 [(0, 1), (1, 1)] := ⟨_, Tryz.underlying199, fun _ _ => by kernel_rfl⟩
instance : TI Tryz.prog 199 2 16 (.agg #[.nilFunc, .nilFunc]) := .of_map (by kernel_rfl)
instance : TA Tryz.prog 200 false := ⟨_, Tryz.underlying200, rfl⟩
instance : TN Tryz.prog 200 := ⟨_, Tryz.underlying200, rfl⟩
instance : TA Tryz.prog 201 false := ⟨_, Tryz.underlying201, rfl⟩
instance : TN Tryz.prog 201 := ⟨_, Tryz.underlying201, rfl⟩
instance : TU Tryz.prog 201 (.map 3 199) := ⟨Tryz.underlying201⟩
instance : TI Tryz.prog 201 1 8 (.map none) := .of_map (by kernel_rfl)
instance : TA Tryz.prog 202 false := ⟨_, Tryz.underlying202, rfl⟩
instance : TN Tryz.prog 202 := ⟨_, Tryz.underlying202, rfl⟩
instance : TI Tryz.prog 202 1 8 .nilFunc := .of_map (by kernel_rfl)
instance : TA Tryz.prog 203 false := ⟨_, Tryz.underlying203, rfl⟩
instance : TN Tryz.prog 203 := ⟨_, Tryz.underlying203, rfl⟩
instance : TI Tryz.prog 203 1 8 .nilFunc := .of_map (by kernel_rfl)
instance : TA Tryz.prog 204 true := ⟨_, Tryz.underlying204, rfl⟩
instance : TN Tryz.prog 204 := ⟨_, Tryz.underlying204, rfl⟩
instance : TF Tryz.prog 204 0 0 24 := ⟨_, _, Tryz.underlying204, rfl, rfl, rfl⟩
instance : TS Tryz.prog 204 [(0, 8)] := ⟨_, Tryz.underlying204, fun _ _ => by kernel_rfl⟩
instance : TI Tryz.prog 204 8 96 (.agg #[(.int .i64 0), (.int .i64 0), (.int .i64 0), (.int .i64 0), (.int .i64 0), (.int .i64 0), (.slice none 0 0), (.slice none 0 0)]) := .of_map (by kernel_rfl)
instance : TA Tryz.prog 205 true := ⟨_, Tryz.underlying205, rfl⟩
instance : TN Tryz.prog 205 := ⟨_, Tryz.underlying205, rfl⟩
instance : TF Tryz.prog 205 0 0 24 := ⟨_, _, Tryz.underlying205, rfl, rfl, rfl⟩
instance : TS Tryz.prog 205 [(0, 8)] := ⟨_, Tryz.underlying205, fun _ _ => by kernel_rfl⟩
instance : TI Tryz.prog 205 8 96 (.agg #[(.int .i64 0), (.int .i64 0), (.int .i64 0), (.int .i64 0), (.int .i64 0), (.int .i64 0), (.slice none 0 0), (.slice none 0 0)]) := .of_map (by kernel_rfl)
instance : TA Tryz.prog 206 false := ⟨_, Tryz.underlying206, rfl⟩
instance : TN Tryz.prog 206 := ⟨_, Tryz.underlying206, rfl⟩
instance : TU Tryz.prog 206 (.pointer 245) := ⟨Tryz.underlying206⟩
instance : TI Tryz.prog 206 1 8 (.pointer none) := .of_map (by kernel_rfl)
instance : Meth Tryz.prog 206 "Ans" 153 := ⟨fun _ _ _ => by kernel_rfl⟩
instance : Meth Tryz.prog 206 "Step" 154 := ⟨fun _ _ _ => by kernel_rfl⟩
instance : Meth Tryz.prog 206 "Word" 160 := ⟨fun _ _ _ => by kernel_rfl⟩
instance : Meth Tryz.prog 206 "breadline/breadlineref11.next" 217 := ⟨fun _ _ _ => by kernel_rfl⟩
instance : TA Tryz.prog 207 false := ⟨_, Tryz.underlying207, rfl⟩
instance : TN Tryz.prog 207 := ⟨_, Tryz.underlying207, rfl⟩
instance : TI Tryz.prog 207 1 8 .nilFunc := .of_map (by kernel_rfl)
instance : TA Tryz.prog 208 false := ⟨_, Tryz.underlying208, rfl⟩
instance : TN Tryz.prog 208 := ⟨_, Tryz.underlying208, rfl⟩
instance : TU Tryz.prog 208 (.pointer 247) := ⟨Tryz.underlying208⟩
instance : TI Tryz.prog 208 1 8 (.pointer none) := .of_map (by kernel_rfl)
instance : Meth Tryz.prog 208 "Ans" 219 := ⟨fun _ _ _ => by kernel_rfl⟩
instance : Meth Tryz.prog 208 "Step" 156 := ⟨fun _ _ _ => by kernel_rfl⟩
instance : TA Tryz.prog 209 false := ⟨_, Tryz.underlying209, rfl⟩
instance : TN Tryz.prog 209 := ⟨_, Tryz.underlying209, rfl⟩
instance : TU Tryz.prog 209 (.pointer 251) := ⟨Tryz.underlying209⟩
instance : TI Tryz.prog 209 1 8 (.pointer none) := .of_map (by kernel_rfl)
instance : Meth Tryz.prog 209 "Ans" 361 := ⟨fun _ _ _ => by kernel_rfl⟩
instance : Meth Tryz.prog 209 "Step" 164 := ⟨fun _ _ _ => by kernel_rfl⟩
instance : Meth Tryz.prog 209 "breadline/breadlineref06.miss" 224 := ⟨fun _ _ _ => by kernel_rfl⟩
instance : TA Tryz.prog 210 true := ⟨_, Tryz.underlying210, rfl⟩
instance : TN Tryz.prog 210 := ⟨_, Tryz.underlying210, rfl⟩
instance : TF Tryz.prog 210 0 0 24 := ⟨_, _, Tryz.underlying210, rfl, rfl, rfl⟩
instance : TF Tryz.prog 210 1 8 3 := ⟨_, _, Tryz.underlying210, rfl, rfl, rfl⟩
instance : TF Tryz.prog 210 2 9 3 := ⟨_, _, Tryz.underlying210, rfl, rfl, rfl⟩
instance : TF Tryz.prog 210 3 10 3 := ⟨_, _, Tryz.underlying210, rfl, rfl, rfl⟩
instance : TF Tryz.prog 210 4 11 22 := ⟨_, _, Tryz.underlying210, rfl, rfl, rfl⟩
instance : TF Tryz.prog 210 5 12 3 := ⟨_, _, Tryz.underlying210, rfl, rfl, rfl⟩
instance : TF Tryz.prog 210 6 13 3 := ⟨_, _, Tryz.underlying210, rfl, rfl, rfl⟩
instance : TF Tryz.prog 210 7 14 206 := ⟨_, _, Tryz.underlying210, rfl, rfl, rfl⟩
instance : TF Tryz.prog 210 8 15 208 := ⟨_, _, Tryz.underlying210, rfl, rfl, rfl⟩
instance : TF Tryz.prog 210 9 16 209 := ⟨_, _, Tryz.underlying210, rfl, rfl, rfl⟩
instance : TF Tryz.prog 210 10 17 3 := ⟨_, _, Tryz.underlying210, rfl, rfl, rfl⟩
instance : TF Tryz.prog 210 11 18 73 := ⟨_, _, Tryz.underlying210, rfl, rfl, rfl⟩
instance : TS Tryz.prog 210 [(0, 8), (8, 1), (9, 1), (10, 1), (11, 1), (12, 1), (13, 1), (14, 1), (15, 1), (16, 1), (17, 1), (18, 4)] := ⟨_, Tryz.underlying210, fun _ _ => by kernel_rfl⟩
instance : TI Tryz.prog 210 22 224 (.agg #[(.int .i64 0), (.int .i64 0), (.int .i64 0), (.int .i64 0), (.int .i64 0), (.int .i64 0), (.slice none 0 0), (.slice none 0 0), (.int .i64 0), (.int .i64 0), (.int .i64 0), (.slice none 0 0), (.int .i64 0), (.int .i64 0), (.pointer none), (.pointer none), (.pointer none), (.int .i64 0), (.int .i64 0), (.int .i64 0), (.bool false), (.int .i64 0)]) := .of_map (by kernel_rfl)
instance : TA Tryz.prog 211 true := ⟨_, Tryz.underlying211, rfl⟩
instance : TN Tryz.prog 211 := ⟨_, Tryz.underlying211, rfl⟩
instance : TF Tryz.prog 211 0 0 24 := ⟨_, _, Tryz.underlying211, rfl, rfl, rfl⟩
instance : TF Tryz.prog 211 1 8 3 := ⟨_, _, Tryz.underlying211, rfl, rfl, rfl⟩
instance : TF Tryz.prog 211 2 9 3 := ⟨_, _, Tryz.underlying211, rfl, rfl, rfl⟩
instance : TF Tryz.prog 211 3 10 3 := ⟨_, _, Tryz.underlying211, rfl, rfl, rfl⟩
instance : TF Tryz.prog 211 4 11 22 := ⟨_, _, Tryz.underlying211, rfl, rfl, rfl⟩
instance : TF Tryz.prog 211 5 12 3 := ⟨_, _, Tryz.underlying211, rfl, rfl, rfl⟩
instance : TF Tryz.prog 211 6 13 3 := ⟨_, _, Tryz.underlying211, rfl, rfl, rfl⟩
instance : TF Tryz.prog 211 7 14 206 := ⟨_, _, Tryz.underlying211, rfl, rfl, rfl⟩
instance : TF Tryz.prog 211 8 15 208 := ⟨_, _, Tryz.underlying211, rfl, rfl, rfl⟩
instance : TF Tryz.prog 211 9 16 209 := ⟨_, _, Tryz.underlying211, rfl, rfl, rfl⟩
instance : TF Tryz.prog 211 10 17 3 := ⟨_, _, Tryz.underlying211, rfl, rfl, rfl⟩
instance : TF Tryz.prog 211 11 18 73 := ⟨_, _, Tryz.underlying211, rfl, rfl, rfl⟩
instance : TS Tryz.prog 211 [(0, 8), (8, 1), (9, 1), (10, 1), (11, 1), (12, 1), (13, 1), (14, 1), (15, 1), (16, 1), (17, 1), (18, 4)] := ⟨_, Tryz.underlying211, fun _ _ => by kernel_rfl⟩
instance : TI Tryz.prog 211 22 224 (.agg #[(.int .i64 0), (.int .i64 0), (.int .i64 0), (.int .i64 0), (.int .i64 0), (.int .i64 0), (.slice none 0 0), (.slice none 0 0), (.int .i64 0), (.int .i64 0), (.int .i64 0), (.slice none 0 0), (.int .i64 0), (.int .i64 0), (.pointer none), (.pointer none), (.pointer none), (.int .i64 0), (.int .i64 0), (.int .i64 0), (.bool false), (.int .i64 0)]) := .of_map (by kernel_rfl)
instance : TA Tryz.prog 212 true := ⟨_, Tryz.underlying212, rfl⟩
instance : TN Tryz.prog 212 := ⟨_, Tryz.underlying212, rfl⟩
instance : TF Tryz.prog 212 0 0 24 := ⟨_, _, Tryz.underlying212, rfl, rfl, rfl⟩
instance : TF Tryz.prog 212 1 8 3 := ⟨_, _, Tryz.underlying212, rfl, rfl, rfl⟩
instance : TF Tryz.prog 212 2 9 3 := ⟨_, _, Tryz.underlying212, rfl, rfl, rfl⟩
instance : TF Tryz.prog 212 3 10 3 := ⟨_, _, Tryz.underlying212, rfl, rfl, rfl⟩
instance : TF Tryz.prog 212 4 11 3 := ⟨_, _, Tryz.underlying212, rfl, rfl, rfl⟩
instance : TF Tryz.prog 212 5 12 3 := ⟨_, _, Tryz.underlying212, rfl, rfl, rfl⟩
instance : TF Tryz.prog 212 6 13 3 := ⟨_, _, Tryz.underlying212, rfl, rfl, rfl⟩
instance : TF Tryz.prog 212 7 14 3 := ⟨_, _, Tryz.underlying212, rfl, rfl, rfl⟩
instance : TF Tryz.prog 212 8 15 22 := ⟨_, _, Tryz.underlying212, rfl, rfl, rfl⟩
instance : TF Tryz.prog 212 9 16 3 := ⟨_, _, Tryz.underlying212, rfl, rfl, rfl⟩
instance : TF Tryz.prog 212 10 17 3 := ⟨_, _, Tryz.underlying212, rfl, rfl, rfl⟩
instance : TF Tryz.prog 212 11 18 209 := ⟨_, _, Tryz.underlying212, rfl, rfl, rfl⟩
instance : TF Tryz.prog 212 12 19 73 := ⟨_, _, Tryz.underlying212, rfl, rfl, rfl⟩
instance : TS Tryz.prog 212 [(0, 8), (8, 1), (9, 1), (10, 1), (11, 1), (12, 1), (13, 1), (14, 1), (15, 1), (16, 1), (17, 1), (18, 1), (19, 4)] := ⟨_, Tryz.underlying212, fun _ _ => by kernel_rfl⟩
instance : TI Tryz.prog 212 23 232 (.agg #[(.int .i64 0), (.int .i64 0), (.int .i64 0), (.int .i64 0), (.int .i64 0), (.int .i64 0), (.slice none 0 0), (.slice none 0 0), (.int .i64 0), (.int .i64 0), (.int .i64 0), (.int .i64 0), (.int .i64 0), (.int .i64 0), (.int .i64 0), (.slice none 0 0), (.int .i64 0), (.int .i64 0), (.pointer none), (.int .i64 0), (.int .i64 0), (.bool false), (.int .i64 0)]) := .of_map (by kernel_rfl)
instance : TA Tryz.prog 213 true := ⟨_, Tryz.underlying213, rfl⟩
instance : TN Tryz.prog 213 := ⟨_, Tryz.underlying213, rfl⟩
instance : TF Tryz.prog 213 0 0 24 := ⟨_, _, Tryz.underlying213, rfl, rfl, rfl⟩
instance : TF Tryz.prog 213 1 8 3 := ⟨_, _, Tryz.underlying213, rfl, rfl, rfl⟩
instance : TF Tryz.prog 213 2 9 3 := ⟨_, _, Tryz.underlying213, rfl, rfl, rfl⟩
instance : TF Tryz.prog 213 3 10 3 := ⟨_, _, Tryz.underlying213, rfl, rfl, rfl⟩
instance : TF Tryz.prog 213 4 11 3 := ⟨_, _, Tryz.underlying213, rfl, rfl, rfl⟩
instance : TF Tryz.prog 213 5 12 3 := ⟨_, _, Tryz.underlying213, rfl, rfl, rfl⟩
instance : TF Tryz.prog 213 6 13 3 := ⟨_, _, Tryz.underlying213, rfl, rfl, rfl⟩
instance : TF Tryz.prog 213 7 14 3 := ⟨_, _, Tryz.underlying213, rfl, rfl, rfl⟩
instance : TF Tryz.prog 213 8 15 22 := ⟨_, _, Tryz.underlying213, rfl, rfl, rfl⟩
instance : TF Tryz.prog 213 9 16 3 := ⟨_, _, Tryz.underlying213, rfl, rfl, rfl⟩
instance : TF Tryz.prog 213 10 17 3 := ⟨_, _, Tryz.underlying213, rfl, rfl, rfl⟩
instance : TF Tryz.prog 213 11 18 209 := ⟨_, _, Tryz.underlying213, rfl, rfl, rfl⟩
instance : TF Tryz.prog 213 12 19 73 := ⟨_, _, Tryz.underlying213, rfl, rfl, rfl⟩
instance : TS Tryz.prog 213 [(0, 8), (8, 1), (9, 1), (10, 1), (11, 1), (12, 1), (13, 1), (14, 1), (15, 1), (16, 1), (17, 1), (18, 1), (19, 4)] := ⟨_, Tryz.underlying213, fun _ _ => by kernel_rfl⟩
instance : TI Tryz.prog 213 23 232 (.agg #[(.int .i64 0), (.int .i64 0), (.int .i64 0), (.int .i64 0), (.int .i64 0), (.int .i64 0), (.slice none 0 0), (.slice none 0 0), (.int .i64 0), (.int .i64 0), (.int .i64 0), (.int .i64 0), (.int .i64 0), (.int .i64 0), (.int .i64 0), (.slice none 0 0), (.int .i64 0), (.int .i64 0), (.pointer none), (.int .i64 0), (.int .i64 0), (.bool false), (.int .i64 0)]) := .of_map (by kernel_rfl)
instance : TA Tryz.prog 214 true := ⟨_, Tryz.underlying214, rfl⟩
instance : TN Tryz.prog 214 := ⟨_, Tryz.underlying214, rfl⟩
instance : TF Tryz.prog 214 0 0 3 := ⟨_, _, Tryz.underlying214, rfl, rfl, rfl⟩
instance : TF Tryz.prog 214 1 1 24 := ⟨_, _, Tryz.underlying214, rfl, rfl, rfl⟩
instance : TF Tryz.prog 214 2 9 3 := ⟨_, _, Tryz.underlying214, rfl, rfl, rfl⟩
instance : TF Tryz.prog 214 3 10 3 := ⟨_, _, Tryz.underlying214, rfl, rfl, rfl⟩
instance : TF Tryz.prog 214 4 11 3 := ⟨_, _, Tryz.underlying214, rfl, rfl, rfl⟩
instance : TF Tryz.prog 214 5 12 3 := ⟨_, _, Tryz.underlying214, rfl, rfl, rfl⟩
instance : TF Tryz.prog 214 6 13 73 := ⟨_, _, Tryz.underlying214, rfl, rfl, rfl⟩
instance : TS Tryz.prog 214 [(0, 1), (1, 8), (9, 1), (10, 1), (11, 1), (12, 1), (13, 4)] := ⟨_, Tryz.underlying214, fun _ _ => by kernel_rfl⟩
instance : TI Tryz.prog 214 17 168 (.agg #[(.int .i64 0), (.int .i64 0), (.int .i64 0), (.int .i64 0), (.int .i64 0), (.int .i64 0), (.int .i64 0), (.slice none 0 0), (.slice none 0 0), (.int .i64 0), (.int .i64 0), (.int .i64 0), (.int .i64 0), (.int .i64 0), (.int .i64 0), (.bool false), (.int .i64 0)]) := .of_map (by kernel_rfl)
instance : TA Tryz.prog 215 true := ⟨_, Tryz.underlying215, rfl⟩
instance : TN Tryz.prog 215 := ⟨_, Tryz.underlying215, rfl⟩
instance : TF Tryz.prog 215 0 0 3 := ⟨_, _, Tryz.underlying215, rfl, rfl, rfl⟩
instance : TF Tryz.prog 215 1 1 24 := ⟨_, _, Tryz.underlying215, rfl, rfl, rfl⟩
instance : TF Tryz.prog 215 2 9 3 := ⟨_, _, Tryz.underlying215, rfl, rfl, rfl⟩
instance : TF Tryz.prog 215 3 10 3 := ⟨_, _, Tryz.underlying215, rfl, rfl, rfl⟩
instance : TF Tryz.prog 215 4 11 3 := ⟨_, _, Tryz.underlying215, rfl, rfl, rfl⟩
instance : TF Tryz.prog 215 5 12 3 := ⟨_, _, Tryz.underlying215, rfl, rfl, rfl⟩
instance : TF Tryz.prog 215 6 13 73 := ⟨_, _, Tryz.underlying215, rfl, rfl, rfl⟩
instance : TS Tryz.prog 215 [(0, 1), (1, 8), (9, 1), (10, 1), (11, 1), (12, 1), (13, 4)] := ⟨_, Tryz.underlying215, fun _ _ => by kernel_rfl⟩
instance : TI Tryz.prog 215 17 168 (.agg #[(.int .i64 0), (.int .i64 0), (.int .i64 0), (.int .i64 0), (.int .i64 0), (.int .i64 0), (.int .i64 0), (.slice none 0 0), (.slice none 0 0), (.int .i64 0), (.int .i64 0), (.int .i64 0), (.int .i64 0), (.int .i64 0), (.int .i64 0), (.bool false), (.int .i64 0)]) := .of_map (by kernel_rfl)
instance : TA Tryz.prog 216 true := ⟨_, Tryz.underlying216, rfl⟩
instance : TN Tryz.prog 216 := ⟨_, Tryz.underlying216, rfl⟩
instance : TF Tryz.prog 216 0 0 3 := ⟨_, _, Tryz.underlying216, rfl, rfl, rfl⟩
instance : TF Tryz.prog 216 1 1 3 := ⟨_, _, Tryz.underlying216, rfl, rfl, rfl⟩
instance : TF Tryz.prog 216 2 2 3 := ⟨_, _, Tryz.underlying216, rfl, rfl, rfl⟩
instance : TF Tryz.prog 216 3 3 4 := ⟨_, _, Tryz.underlying216, rfl, rfl, rfl⟩
instance : TF Tryz.prog 216 4 4 22 := ⟨_, _, Tryz.underlying216, rfl, rfl, rfl⟩
instance : TF Tryz.prog 216 5 5 73 := ⟨_, _, Tryz.underlying216, rfl, rfl, rfl⟩
instance : TF Tryz.prog 216 6 9 4 := ⟨_, _, Tryz.underlying216, rfl, rfl, rfl⟩
instance : TS Tryz.prog 216 [(0, 1), (1, 1), (2, 1), (3, 1), (4, 1), (5, 4), (9, 1)] := ⟨_, Tryz.underlying216, fun _ _ => by kernel_rfl⟩
instance : TI Tryz.prog 216 10 96 (.agg #[(.int .i64 0), (.int .i64 0), (.int .i64 0), (.bool false), (.slice none 0 0), (.int .i64 0), (.int .i64 0), (.bool false), (.int .i64 0), (.bool false)]) := .of_map (by kernel_rfl)
instance : TA Tryz.prog 217 true := ⟨_, Tryz.underlying217, rfl⟩
instance : TN Tryz.prog 217 := ⟨_, Tryz.underlying217, rfl⟩
instance : TF Tryz.prog 217 0 0 3 := ⟨_, _, Tryz.underlying217, rfl, rfl, rfl⟩
instance : TF Tryz.prog 217 1 1 3 := ⟨_, _, Tryz.underlying217, rfl, rfl, rfl⟩
instance : TF Tryz.prog 217 2 2 3 := ⟨_, _, Tryz.underlying217, rfl, rfl, rfl⟩
instance : TF Tryz.prog 217 3 3 4 := ⟨_, _, Tryz.underlying217, rfl, rfl, rfl⟩
instance : TF Tryz.prog 217 4 4 22 := ⟨_, _, Tryz.underlying217, rfl, rfl, rfl⟩
instance : TF Tryz.prog 217 5 5 73 := ⟨_, _, Tryz.underlying217, rfl, rfl, rfl⟩
instance : TF Tryz.prog 217 6 9 4 := ⟨_, _, Tryz.underlying217, rfl, rfl, rfl⟩
instance : TS Tryz.prog 217 [(0, 1), (1, 1), (2, 1), (3, 1), (4, 1), (5, 4), (9, 1)] := ⟨_, Tryz.underlying217, fun _ _ => by kernel_rfl⟩
instance : TI Tryz.prog 217 10 96 (.agg #[(.int .i64 0), (.int .i64 0), (.int .i64 0), (.bool false), (.slice none 0 0), (.int .i64 0), (.int .i64 0), (.bool false), (.int .i64 0), (.bool false)]) := .of_map (by kernel_rfl)
instance : TA Tryz.prog 218 false := ⟨_, Tryz.underlying218, rfl⟩
instance : TN Tryz.prog 218 := ⟨_, Tryz.underlying218, rfl⟩
instance : TI Tryz.prog 218 1 8 .nilFunc := .of_map (by kernel_rfl)
instance : TA Tryz.prog 219 false := ⟨_, Tryz.underlying219, rfl⟩
instance : TN Tryz.prog 219 := ⟨_, Tryz.underlying219, rfl⟩
instance : TI Tryz.prog 219 1 8 .nilFunc := .of_map (by kernel_rfl)
instance : TA Tryz.prog 220 false := ⟨_, Tryz.underlying220, rfl⟩
instance : TN Tryz.prog 220 := ⟨_, Tryz.underlying220, rfl⟩
instance : TI Tryz.prog 220 1 8 .nilFunc := .of_map (by kernel_rfl)
instance : TA Tryz.prog 221 false := ⟨_, Tryz.underlying221, rfl⟩
instance : TN Tryz.prog 221 := ⟨_, Tryz.underlying221, rfl⟩
instance : TI Tryz.prog 221 1 8 .nilFunc := .of_map (by kernel_rfl)
instance : TA Tryz.prog 222 false := ⟨_, Tryz.underlying222, rfl⟩
instance : TN Tryz.prog 222 := ⟨_, Tryz.underlying222, rfl⟩
instance : TU Tryz.prog 222 (.int .u64) := ⟨Tryz.underlying222⟩
instance : TI Tryz.prog 222 1 8 (.int .u64 0) := .of_map (by kernel_rfl)
instance : TA Tryz.prog 223 false := ⟨_, Tryz.underlying223, rfl⟩
instance : TN Tryz.prog 223 := ⟨_, Tryz.underlying223, rfl⟩
instance : TI Tryz.prog 223 1 8 .nilFunc := .of_map (by kernel_rfl)
instance : TA Tryz.prog 224 false := ⟨_, Tryz.underlying224, rfl⟩
instance : TN Tryz.prog 224 := ⟨_, Tryz.underlying224, rfl⟩
instance : TI Tryz.prog 224 1 8 (.pointer none) := .of_map (by kernel_rfl)
instance : TA Tryz.prog 225 false := ⟨_, Tryz.underlying225, rfl⟩
instance : TN Tryz.prog 225 := ⟨_, Tryz.underlying225, rfl⟩
instance : TU Tryz.prog 225 (.int .i64) := ⟨Tryz.underlying225⟩
instance : TI Tryz.prog 225 1 8 (.int .i64 0) := .of_map (by kernel_rfl)
instance : TA Tryz.prog 226 false := ⟨_, Tryz.underlying226, rfl⟩
instance : TN Tryz.prog 226 := ⟨_, Tryz.underlying226, rfl⟩
instance : TI Tryz.prog 226 1 8 .nilFunc := .of_map (by kernel_rfl)
instance : TA Tryz.prog 227 false := ⟨_, Tryz.underlying227, rfl⟩
instance : TN Tryz.prog 227 := ⟨_, Tryz.underlying227, rfl⟩
instance : TI Tryz.prog 227 1 8 .nilFunc := .of_map (by kernel_rfl)
instance : TA Tryz.prog 228 false := ⟨_, Tryz.underlying228, rfl⟩
instance : TN Tryz.prog 228 := ⟨_, Tryz.underlying228, rfl⟩
instance : TI Tryz.prog 228 1 8 .nilFunc := .of_map (by kernel_rfl)
instance : TA Tryz.prog 229 false := ⟨_, Tryz.underlying229, rfl⟩
instance : TN Tryz.prog 229 := ⟨_, Tryz.underlying229, rfl⟩
instance : TU Tryz.prog 229 (.pointer 63) := ⟨Tryz.underlying229⟩
instance : TI Tryz.prog 229 1 8 (.pointer none) := .of_map (by kernel_rfl)
instance : TA Tryz.prog 230 false := ⟨_, Tryz.underlying230, rfl⟩
instance : TN Tryz.prog 230 := ⟨_, Tryz.underlying230, rfl⟩
instance : TI Tryz.prog 230 1 8 .nilFunc := .of_map (by kernel_rfl)
instance : TA Tryz.prog 231 false := ⟨_, Tryz.underlying231, rfl⟩
instance : TN Tryz.prog 231 := ⟨_, Tryz.underlying231, rfl⟩
instance : TI Tryz.prog 231 1 8 .nilFunc := .of_map (by kernel_rfl)
instance : TA Tryz.prog 232 false := ⟨_, Tryz.underlying232, rfl⟩
instance : TN Tryz.prog 232 := ⟨_, Tryz.underlying232, rfl⟩
instance : TI Tryz.prog 232 1 8 .nilFunc := .of_map (by kernel_rfl)
instance : TA Tryz.prog 233 false := ⟨_, Tryz.underlying233, rfl⟩
instance : TN Tryz.prog 233 := ⟨_, Tryz.underlying233, rfl⟩
instance : TI Tryz.prog 233 1 8 .nilFunc := .of_map (by kernel_rfl)
instance : TA Tryz.prog 234 false := ⟨_, Tryz.underlying234, rfl⟩
instance : TN Tryz.prog 234 := ⟨_, Tryz.underlying234, rfl⟩
instance : TI Tryz.prog 234 1 8 .nilFunc := .of_map (by kernel_rfl)
instance : TA Tryz.prog 235 false := ⟨_, Tryz.underlying235, rfl⟩
instance : TN Tryz.prog 235 := ⟨_, Tryz.underlying235, rfl⟩
instance : TI Tryz.prog 235 1 8 .nilFunc := .of_map (by kernel_rfl)
instance : TA Tryz.prog 236 false := ⟨_, Tryz.underlying236, rfl⟩
instance : TN Tryz.prog 236 := ⟨_, Tryz.underlying236, rfl⟩
instance : TU Tryz.prog 236 (.pointer 263) := ⟨Tryz.underlying236⟩
instance : TI Tryz.prog 236 1 8 (.pointer none) := .of_map (by kernel_rfl)
instance : Meth Tryz.prog 236 "Ans" 362 := ⟨fun _ _ _ => by kernel_rfl⟩
instance : Meth Tryz.prog 236 "Step" 363 := ⟨fun _ _ _ => by kernel_rfl⟩
instance : Meth Tryz.prog 236 "breadline/admit.asked" 265 := ⟨fun _ _ _ => by kernel_rfl⟩
instance : Meth Tryz.prog 236 "breadline/admit.claimed" 240 := ⟨fun _ _ _ => by kernel_rfl⟩
instance : Meth Tryz.prog 236 "breadline/admit.storing" 269 := ⟨fun _ _ _ => by kernel_rfl⟩
instance : TA Tryz.prog 237 false := ⟨_, Tryz.underlying237, rfl⟩
instance : TN Tryz.prog 237 := ⟨_, Tryz.underlying237, rfl⟩
instance : TI Tryz.prog 237 1 8 .nilFunc := .of_map (by kernel_rfl)
instance : TA Tryz.prog 238 false := ⟨_, Tryz.underlying238, rfl⟩
instance : TN Tryz.prog 238 := ⟨_, Tryz.underlying238, rfl⟩
instance : TU Tryz.prog 238 (.pointer 270) := ⟨Tryz.underlying238⟩
instance : TI Tryz.prog 238 1 8 (.pointer none) := .of_map (by kernel_rfl)
instance : Meth Tryz.prog 238 "Ans" 364 := ⟨fun _ _ _ => by kernel_rfl⟩
instance : Meth Tryz.prog 238 "Step" 365 := ⟨fun _ _ _ => by kernel_rfl⟩
instance : Meth Tryz.prog 238 "breadline/release.let" 283 := ⟨fun _ _ _ => by kernel_rfl⟩
instance : Meth Tryz.prog 238 "breadline/release.look" 242 := ⟨fun _ _ _ => by kernel_rfl⟩
instance : Meth Tryz.prog 238 "breadline/release.read" 244 := ⟨fun _ _ _ => by kernel_rfl⟩
instance : Meth Tryz.prog 238 "breadline/release.refuse" 277 := ⟨fun _ _ _ => by kernel_rfl⟩
instance : Meth Tryz.prog 238 "breadline/release.take" 243 := ⟨fun _ _ _ => by kernel_rfl⟩
instance : TA Tryz.prog 239 false := ⟨_, Tryz.underlying239, rfl⟩
instance : TN Tryz.prog 239 := ⟨_, Tryz.underlying239, rfl⟩
instance : TI Tryz.prog 239 1 8 .nilFunc := .of_map (by kernel_rfl)
instance : TA Tryz.prog 240 false := ⟨_, Tryz.underlying240, rfl⟩
instance : TN Tryz.prog 240 := ⟨_, Tryz.underlying240, rfl⟩
instance : TU Tryz.prog 240 (.pointer 292) := ⟨Tryz.underlying240⟩
instance : TI Tryz.prog 240 1 8 (.pointer none) := .of_map (by kernel_rfl)
instance : Meth Tryz.prog 240 "Ans" 366 := ⟨fun _ _ _ => by kernel_rfl⟩
instance : Meth Tryz.prog 240 "Step" 367 := ⟨fun _ _ _ => by kernel_rfl⟩
instance : Meth Tryz.prog 240 "breadline/shift.down" 251 := ⟨fun _ _ _ => by kernel_rfl⟩
instance : Meth Tryz.prog 240 "breadline/shift.height" 246 := ⟨fun _ _ _ => by kernel_rfl⟩
instance : Meth Tryz.prog 240 "breadline/shift.more" 248 := ⟨fun _ _ _ => by kernel_rfl⟩
instance : Meth Tryz.prog 240 "breadline/shift.out" 250 := ⟨fun _ _ _ => by kernel_rfl⟩
instance : Meth Tryz.prog 240 "breadline/shift.rest" 249 := ⟨fun _ _ _ => by kernel_rfl⟩
instance : Meth Tryz.prog 240 "breadline/shift.up" 247 := ⟨fun _ _ _ => by kernel_rfl⟩
instance : TA Tryz.prog 241 false := ⟨_, Tryz.underlying241, rfl⟩
instance : TN Tryz.prog 241 := ⟨_, Tryz.underlying241, rfl⟩
instance : TI Tryz.prog 241 1 8 .nilFunc := .of_map (by kernel_rfl)
instance : TA Tryz.prog 242 false := ⟨_, Tryz.underlying242, rfl⟩
instance : TN Tryz.prog 242 := ⟨_, Tryz.underlying242, rfl⟩
instance : TU Tryz.prog 242 (.pointer 295) := ⟨Tryz.underlying242⟩
instance : TI Tryz.prog 242 1 8 (.pointer none) := .of_map (by kernel_rfl)
instance : Meth Tryz.prog 242 "Ans" 368 := ⟨fun _ _ _ => by kernel_rfl⟩
instance : Meth Tryz.prog 242 "Step" 369 := ⟨fun _ _ _ => by kernel_rfl⟩
instance : Meth Tryz.prog 242 "breadline/snap.closed" 313 := ⟨fun _ _ _ => by kernel_rfl⟩
instance : Meth Tryz.prog 242 "breadline/snap.try" 286 := ⟨fun _ _ _ => by kernel_rfl⟩
instance : Meth Tryz.prog 242 "breadline/snap.words" 310 := ⟨fun _ _ _ => by kernel_rfl⟩
instance : TA Tryz.prog 243 false := ⟨_, Tryz.underlying243, rfl⟩
instance : TN Tryz.prog 243 := ⟨_, Tryz.underlying243, rfl⟩
instance : TI Tryz.prog 243 1 8 .nilFunc := .of_map (by kernel_rfl)
instance : TA Tryz.prog 244 true := ⟨_, Tryz.underlying244, rfl⟩
instance : TN Tryz.prog 244 := ⟨_, Tryz.underlying244, rfl⟩
instance : TF Tryz.prog 244 0 0 24 := ⟨_, _, Tryz.underlying244, rfl, rfl, rfl⟩
instance : TF Tryz.prog 244 1 8 3 := ⟨_, _, Tryz.underlying244, rfl, rfl, rfl⟩
instance : TF Tryz.prog 244 2 9 3 := ⟨_, _, Tryz.underlying244, rfl, rfl, rfl⟩
instance : TF Tryz.prog 244 3 10 4 := ⟨_, _, Tryz.underlying244, rfl, rfl, rfl⟩
instance : TF Tryz.prog 244 4 11 3 := ⟨_, _, Tryz.underlying244, rfl, rfl, rfl⟩
instance : TF Tryz.prog 244 5 12 3 := ⟨_, _, Tryz.underlying244, rfl, rfl, rfl⟩
instance : TF Tryz.prog 244 6 13 4 := ⟨_, _, Tryz.underlying244, rfl, rfl, rfl⟩
instance : TF Tryz.prog 244 7 14 73 := ⟨_, _, Tryz.underlying244, rfl, rfl, rfl⟩
instance : TS Tryz.prog 244 [(0, 8), (8, 1), (9, 1), (10, 1), (11, 1), (12, 1), (13, 1), (14, 4)] := ⟨_, Tryz.underlying244, fun _ _ => by kernel_rfl⟩
instance : TI Tryz.prog 244 18 176 (.agg #[(.int .i64 0), (.int .i64 0), (.int .i64 0), (.int .i64 0), (.int .i64 0), (.int .i64 0), (.slice none 0 0), (.slice none 0 0), (.int .i64 0), (.int .i64 0), (.bool false), (.int .i64 0), (.int .i64 0), (.bool false), (.int .i64 0), (.int .i64 0), (.bool false), (.int .i64 0)]) := .of_map (by kernel_rfl)
instance : TA Tryz.prog 245 true := ⟨_, Tryz.underlying245, rfl⟩
instance : TN Tryz.prog 245 := ⟨_, Tryz.underlying245, rfl⟩
instance : TF Tryz.prog 245 0 0 24 := ⟨_, _, Tryz.underlying245, rfl, rfl, rfl⟩
instance : TF Tryz.prog 245 1 8 3 := ⟨_, _, Tryz.underlying245, rfl, rfl, rfl⟩
instance : TF Tryz.prog 245 2 9 3 := ⟨_, _, Tryz.underlying245, rfl, rfl, rfl⟩
instance : TF Tryz.prog 245 3 10 4 := ⟨_, _, Tryz.underlying245, rfl, rfl, rfl⟩
instance : TF Tryz.prog 245 4 11 3 := ⟨_, _, Tryz.underlying245, rfl, rfl, rfl⟩
instance : TF Tryz.prog 245 5 12 3 := ⟨_, _, Tryz.underlying245, rfl, rfl, rfl⟩
instance : TF Tryz.prog 245 6 13 4 := ⟨_, _, Tryz.underlying245, rfl, rfl, rfl⟩
instance : TF Tryz.prog 245 7 14 73 := ⟨_, _, Tryz.underlying245, rfl, rfl, rfl⟩
instance : TS Tryz.prog 245 [(0, 8), (8, 1), (9, 1), (10, 1), (11, 1), (12, 1), (13, 1), (14, 4)] := ⟨_, Tryz.underlying245, fun _ _ => by kernel_rfl⟩
instance : TI Tryz.prog 245 18 176 (.agg #[(.int .i64 0), (.int .i64 0), (.int .i64 0), (.int .i64 0), (.int .i64 0), (.int .i64 0), (.slice none 0 0), (.slice none 0 0), (.int .i64 0), (.int .i64 0), (.bool false), (.int .i64 0), (.int .i64 0), (.bool false), (.int .i64 0), (.int .i64 0), (.bool false), (.int .i64 0)]) := .of_map (by kernel_rfl)
instance : TA Tryz.prog 246 true := ⟨_, Tryz.underlying246, rfl⟩
instance : TN Tryz.prog 246 := ⟨_, Tryz.underlying246, rfl⟩
instance : TF Tryz.prog 246 0 0 24 := ⟨_, _, Tryz.underlying246, rfl, rfl, rfl⟩
instance : TF Tryz.prog 246 1 8 3 := ⟨_, _, Tryz.underlying246, rfl, rfl, rfl⟩
instance : TF Tryz.prog 246 2 9 3 := ⟨_, _, Tryz.underlying246, rfl, rfl, rfl⟩
instance : TF Tryz.prog 246 3 10 3 := ⟨_, _, Tryz.underlying246, rfl, rfl, rfl⟩
instance : TF Tryz.prog 246 4 11 3 := ⟨_, _, Tryz.underlying246, rfl, rfl, rfl⟩
instance : TF Tryz.prog 246 5 12 3 := ⟨_, _, Tryz.underlying246, rfl, rfl, rfl⟩
instance : TF Tryz.prog 246 6 13 3 := ⟨_, _, Tryz.underlying246, rfl, rfl, rfl⟩
instance : TF Tryz.prog 246 7 14 3 := ⟨_, _, Tryz.underlying246, rfl, rfl, rfl⟩
instance : TF Tryz.prog 246 8 15 73 := ⟨_, _, Tryz.underlying246, rfl, rfl, rfl⟩
instance : TS Tryz.prog 246 [(0, 8), (8, 1), (9, 1), (10, 1), (11, 1), (12, 1), (13, 1), (14, 1), (15, 4)] := ⟨_, Tryz.underlying246, fun _ _ => by kernel_rfl⟩
instance : TI Tryz.prog 246 19 184 (.agg #[(.int .i64 0), (.int .i64 0), (.int .i64 0), (.int .i64 0), (.int .i64 0), (.int .i64 0), (.slice none 0 0), (.slice none 0 0), (.int .i64 0), (.int .i64 0), (.int .i64 0), (.int .i64 0), (.int .i64 0), (.int .i64 0), (.int .i64 0), (.int .i64 0), (.int .i64 0), (.bool false), (.int .i64 0)]) := .of_map (by kernel_rfl)
instance : TA Tryz.prog 247 true := ⟨_, Tryz.underlying247, rfl⟩
instance : TN Tryz.prog 247 := ⟨_, Tryz.underlying247, rfl⟩
instance : TF Tryz.prog 247 0 0 24 := ⟨_, _, Tryz.underlying247, rfl, rfl, rfl⟩
instance : TF Tryz.prog 247 1 8 3 := ⟨_, _, Tryz.underlying247, rfl, rfl, rfl⟩
instance : TF Tryz.prog 247 2 9 3 := ⟨_, _, Tryz.underlying247, rfl, rfl, rfl⟩
instance : TF Tryz.prog 247 3 10 3 := ⟨_, _, Tryz.underlying247, rfl, rfl, rfl⟩
instance : TF Tryz.prog 247 4 11 3 := ⟨_, _, Tryz.underlying247, rfl, rfl, rfl⟩
instance : TF Tryz.prog 247 5 12 3 := ⟨_, _, Tryz.underlying247, rfl, rfl, rfl⟩
instance : TF Tryz.prog 247 6 13 3 := ⟨_, _, Tryz.underlying247, rfl, rfl, rfl⟩
instance : TF Tryz.prog 247 7 14 3 := ⟨_, _, Tryz.underlying247, rfl, rfl, rfl⟩
instance : TF Tryz.prog 247 8 15 73 := ⟨_, _, Tryz.underlying247, rfl, rfl, rfl⟩
instance : TS Tryz.prog 247 [(0, 8), (8, 1), (9, 1), (10, 1), (11, 1), (12, 1), (13, 1), (14, 1), (15, 4)] := ⟨_, Tryz.underlying247, fun _ _ => by kernel_rfl⟩
instance : TI Tryz.prog 247 19 184 (.agg #[(.int .i64 0), (.int .i64 0), (.int .i64 0), (.int .i64 0), (.int .i64 0), (.int .i64 0), (.slice none 0 0), (.slice none 0 0), (.int .i64 0), (.int .i64 0), (.int .i64 0), (.int .i64 0), (.int .i64 0), (.int .i64 0), (.int .i64 0), (.int .i64 0), (.int .i64 0), (.bool false), (.int .i64 0)]) := .of_map (by kernel_rfl)
instance : TA Tryz.prog 248 false := ⟨_, Tryz.underlying248, rfl⟩
instance : TN Tryz.prog 248 := ⟨_, Tryz.underlying248, rfl⟩
instance : TI Tryz.prog 248 1 8 .nilFunc := .of_map (by kernel_rfl)
instance : TA Tryz.prog 249 false := ⟨_, Tryz.underlying249, rfl⟩
instance : TN Tryz.prog 249 := ⟨_, Tryz.underlying249, rfl⟩
instance : TI Tryz.prog 249 1 8 .nilFunc := .of_map (by kernel_rfl)
instance : TA Tryz.prog 250 true := ⟨_, Tryz.underlying250, rfl⟩
instance : TN Tryz.prog 250 := ⟨_, Tryz.underlying250, rfl⟩
instance : TF Tryz.prog 250 0 0 3 := ⟨_, _, Tryz.underlying250, rfl, rfl, rfl⟩
instance : TF Tryz.prog 250 1 1 3 := ⟨_, _, Tryz.underlying250, rfl, rfl, rfl⟩
instance : TF Tryz.prog 250 2 2 3 := ⟨_, _, Tryz.underlying250, rfl, rfl, rfl⟩
instance : TF Tryz.prog 250 3 3 3 := ⟨_, _, Tryz.underlying250, rfl, rfl, rfl⟩
instance : TF Tryz.prog 250 4 4 3 := ⟨_, _, Tryz.underlying250, rfl, rfl, rfl⟩
instance : TF Tryz.prog 250 5 5 3 := ⟨_, _, Tryz.underlying250, rfl, rfl, rfl⟩
instance : TF Tryz.prog 250 6 6 3 := ⟨_, _, Tryz.underlying250, rfl, rfl, rfl⟩
instance : TF Tryz.prog 250 7 7 3 := ⟨_, _, Tryz.underlying250, rfl, rfl, rfl⟩
instance : TF Tryz.prog 250 8 8 3 := ⟨_, _, Tryz.underlying250, rfl, rfl, rfl⟩
instance : TF Tryz.prog 250 9 9 3 := ⟨_, _, Tryz.underlying250, rfl, rfl, rfl⟩
instance : TS Tryz.prog 250 [(0, 1), (1, 1), (2, 1), (3, 1), (4, 1), (5, 1), (6, 1), (7, 1), (8, 1), (9, 1)] := ⟨_, Tryz.underlying250, fun _ _ => by kernel_rfl⟩
instance : TI Tryz.prog 250 10 80 (.agg #[(.int .i64 0), (.int .i64 0), (.int .i64 0), (.int .i64 0), (.int .i64 0), (.int .i64 0), (.int .i64 0), (.int .i64 0), (.int .i64 0), (.int .i64 0)]) := .of_map (by kernel_rfl)
instance : TA Tryz.prog 251 true := ⟨_, Tryz.underlying251, rfl⟩
instance : TN Tryz.prog 251 := ⟨_, Tryz.underlying251, rfl⟩
instance : TF Tryz.prog 251 0 0 3 := ⟨_, _, Tryz.underlying251, rfl, rfl, rfl⟩
instance : TF Tryz.prog 251 1 1 3 := ⟨_, _, Tryz.underlying251, rfl, rfl, rfl⟩
instance : TF Tryz.prog 251 2 2 3 := ⟨_, _, Tryz.underlying251, rfl, rfl, rfl⟩
instance : TF Tryz.prog 251 3 3 3 := ⟨_, _, Tryz.underlying251, rfl, rfl, rfl⟩
instance : TF Tryz.prog 251 4 4 3 := ⟨_, _, Tryz.underlying251, rfl, rfl, rfl⟩
instance : TF Tryz.prog 251 5 5 3 := ⟨_, _, Tryz.underlying251, rfl, rfl, rfl⟩
instance : TF Tryz.prog 251 6 6 3 := ⟨_, _, Tryz.underlying251, rfl, rfl, rfl⟩
instance : TF Tryz.prog 251 7 7 3 := ⟨_, _, Tryz.underlying251, rfl, rfl, rfl⟩
instance : TF Tryz.prog 251 8 8 3 := ⟨_, _, Tryz.underlying251, rfl, rfl, rfl⟩
instance : TF Tryz.prog 251 9 9 3 := ⟨_, _, Tryz.underlying251, rfl, rfl, rfl⟩
instance : TS Tryz.prog 251 [(0, 1), (1, 1), (2, 1), (3, 1), (4, 1), (5, 1), (6, 1), (7, 1), (8, 1), (9, 1)] := ⟨_, Tryz.underlying251, fun _ _ => by kernel_rfl⟩
instance : TI Tryz.prog 251 10 80 (.agg #[(.int .i64 0), (.int .i64 0), (.int .i64 0), (.int .i64 0), (.int .i64 0), (.int .i64 0), (.int .i64 0), (.int .i64 0), (.int .i64 0), (.int .i64 0)]) := .of_map (by kernel_rfl)
instance : TA Tryz.prog 252 false := ⟨_, Tryz.underlying252, rfl⟩
instance : TN Tryz.prog 252 := ⟨_, Tryz.underlying252, rfl⟩
instance : TU Tryz.prog 252 (.pointer 181) := ⟨Tryz.underlying252⟩
instance : TI Tryz.prog 252 1 8 (.pointer none) := .of_map (by kernel_rfl)
instance : Meth Tryz.prog 252 "Add" 181 := ⟨fun _ _ _ => by kernel_rfl⟩
instance : Meth Tryz.prog 252 "CompareAndSwap" 191 := ⟨fun _ _ _ => by kernel_rfl⟩
instance : Meth Tryz.prog 252 "Load" 183 := ⟨fun _ _ _ => by kernel_rfl⟩
instance : Meth Tryz.prog 252 "Or" 180 := ⟨fun _ _ _ => by kernel_rfl⟩
instance : Meth Tryz.prog 252 "Store" 184 := ⟨fun _ _ _ => by kernel_rfl⟩
instance : TA Tryz.prog 253 false := ⟨_, Tryz.underlying253, rfl⟩
instance : TN Tryz.prog 253 := ⟨_, Tryz.underlying253, rfl⟩
instance : TI Tryz.prog 253 1 8 .nilFunc := .of_map (by kernel_rfl)
instance : TA Tryz.prog 254 false := ⟨_, Tryz.underlying254, rfl⟩
instance : TN Tryz.prog 254 := ⟨_, Tryz.underlying254, rfl⟩
instance : TU Tryz.prog 254 (.pointer 179) := ⟨Tryz.underlying254⟩
instance : TI Tryz.prog 254 1 8 (.pointer none) := .of_map (by kernel_rfl)
instance : TA Tryz.prog 255 false := ⟨_, Tryz.underlying255, rfl⟩
instance : TN Tryz.prog 255 := ⟨_, Tryz.underlying255, rfl⟩
instance : TI Tryz.prog 255 1 8 .nilFunc := .of_map (by kernel_rfl)
instance : TA Tryz.prog 256 false := ⟨_, Tryz.underlying256, rfl⟩
instance : TN Tryz.prog 256 := ⟨_, Tryz.underlying256, rfl⟩
instance : TI Tryz.prog 256 1 8 .nilFunc := .of_map (by kernel_rfl)
instance : TA Tryz.prog 257 false := ⟨_, Tryz.underlying257, rfl⟩
instance : TN Tryz.prog 257 := ⟨_, Tryz.underlying257, rfl⟩
instance : TI Tryz.prog 257 1 8 .nilFunc := .of_map (by kernel_rfl)
instance : TA Tryz.prog 258 false := ⟨_, Tryz.underlying258, rfl⟩
instance : TN Tryz.prog 258 := ⟨_, Tryz.underlying258, rfl⟩
instance : TI Tryz.prog 258 1 8 .nilFunc := .of_map (by kernel_rfl)
instance : TA Tryz.prog 259 false := ⟨_, Tryz.underlying259, rfl⟩
instance : TN Tryz.prog 259 := ⟨_, Tryz.underlying259, rfl⟩
instance : TU Tryz.prog 259 (.pointer 279) := ⟨Tryz.underlying259⟩
instance : TI Tryz.prog 259 1 8 (.pointer none) := .of_map (by kernel_rfl)
instance : Meth Tryz.prog 259 "Ans" 298 := ⟨fun _ _ _ => by kernel_rfl⟩
instance : Meth Tryz.prog 259 "Step" 370 := ⟨fun _ _ _ => by kernel_rfl⟩
instance : Meth Tryz.prog 259 "Word" 268 := ⟨fun _ _ _ => by kernel_rfl⟩
instance : Meth Tryz.prog 259 "breadline/claim.next" 371 := ⟨fun _ _ _ => by kernel_rfl⟩
instance : Meth Tryz.prog 259 "breadline/claim.take" 372 := ⟨fun _ _ _ => by kernel_rfl⟩
instance : TA Tryz.prog 260 false := ⟨_, Tryz.underlying260, rfl⟩
instance : TN Tryz.prog 260 := ⟨_, Tryz.underlying260, rfl⟩
instance : TI Tryz.prog 260 1 8 .nilFunc := .of_map (by kernel_rfl)
instance : TA Tryz.prog 261 false := ⟨_, Tryz.underlying261, rfl⟩
instance : TN Tryz.prog 261 := ⟨_, Tryz.underlying261, rfl⟩
instance : TU Tryz.prog 261 (.slice 267) := ⟨Tryz.underlying261⟩
instance : TI Tryz.prog 261 1 24 (.slice none 0 0) := .of_map (by kernel_rfl)
instance : TA Tryz.prog 262 true := ⟨_, Tryz.underlying262, rfl⟩
instance : TN Tryz.prog 262 := ⟨_, Tryz.underlying262, rfl⟩
instance : TF Tryz.prog 262 0 0 24 := ⟨_, _, Tryz.underlying262, rfl, rfl, rfl⟩
instance : TF Tryz.prog 262 1 8 3 := ⟨_, _, Tryz.underlying262, rfl, rfl, rfl⟩
instance : TF Tryz.prog 262 2 9 3 := ⟨_, _, Tryz.underlying262, rfl, rfl, rfl⟩
instance : TF Tryz.prog 262 3 10 3 := ⟨_, _, Tryz.underlying262, rfl, rfl, rfl⟩
instance : TF Tryz.prog 262 4 11 259 := ⟨_, _, Tryz.underlying262, rfl, rfl, rfl⟩
instance : TF Tryz.prog 262 5 12 22 := ⟨_, _, Tryz.underlying262, rfl, rfl, rfl⟩
instance : TF Tryz.prog 262 6 13 261 := ⟨_, _, Tryz.underlying262, rfl, rfl, rfl⟩
instance : TF Tryz.prog 262 7 14 94 := ⟨_, _, Tryz.underlying262, rfl, rfl, rfl⟩
instance : TF Tryz.prog 262 8 15 73 := ⟨_, _, Tryz.underlying262, rfl, rfl, rfl⟩
instance : TS Tryz.prog 262 [(0, 8), (8, 1), (9, 1), (10, 1), (11, 1), (12, 1), (13, 1), (14, 1), (15, 4)] := ⟨_, Tryz.underlying262, fun _ _ => by kernel_rfl⟩
instance : TI Tryz.prog 262 19 224 (.agg #[(.int .i64 0), (.int .i64 0), (.int .i64 0), (.int .i64 0), (.int .i64 0), (.int .i64 0), (.slice none 0 0), (.slice none 0 0), (.int .i64 0), (.int .i64 0), (.int .i64 0), (.pointer none), (.slice none 0 0), (.slice none 0 0), .nilIface, (.int .i64 0), (.int .i64 0), (.bool false), (.int .i64 0)]) := .of_map (by kernel_rfl)
instance : TA Tryz.prog 263 true := ⟨_, Tryz.underlying263, rfl⟩
instance : TN Tryz.prog 263 := ⟨_, Tryz.underlying263, rfl⟩
instance : TF Tryz.prog 263 0 0 24 := ⟨_, _, Tryz.underlying263, rfl, rfl, rfl⟩
instance : TF Tryz.prog 263 1 8 3 := ⟨_, _, Tryz.underlying263, rfl, rfl, rfl⟩
instance : TF Tryz.prog 263 2 9 3 := ⟨_, _, Tryz.underlying263, rfl, rfl, rfl⟩
instance : TF Tryz.prog 263 3 10 3 := ⟨_, _, Tryz.underlying263, rfl, rfl, rfl⟩
instance : TF Tryz.prog 263 4 11 259 := ⟨_, _, Tryz.underlying263, rfl, rfl, rfl⟩
instance : TF Tryz.prog 263 5 12 22 := ⟨_, _, Tryz.underlying263, rfl, rfl, rfl⟩
instance : TF Tryz.prog 263 6 13 261 := ⟨_, _, Tryz.underlying263, rfl, rfl, rfl⟩
instance : TF Tryz.prog 263 7 14 94 := ⟨_, _, Tryz.underlying263, rfl, rfl, rfl⟩
instance : TF Tryz.prog 263 8 15 73 := ⟨_, _, Tryz.underlying263, rfl, rfl, rfl⟩
instance : TS Tryz.prog 263 [(0, 8), (8, 1), (9, 1), (10, 1), (11, 1), (12, 1), (13, 1), (14, 1), (15, 4)] := ⟨_, Tryz.underlying263, fun _ _ => by kernel_rfl⟩
instance : TI Tryz.prog 263 19 224 (.agg #[(.int .i64 0), (.int .i64 0), (.int .i64 0), (.int .i64 0), (.int .i64 0), (.int .i64 0), (.slice none 0 0), (.slice none 0 0), (.int .i64 0), (.int .i64 0), (.int .i64 0), (.pointer none), (.slice none 0 0), (.slice none 0 0), .nilIface, (.int .i64 0), (.int .i64 0), (.bool false), (.int .i64 0)]) := .of_map (by kernel_rfl)
instance : TA Tryz.prog 264 false := ⟨_, Tryz.underlying264, rfl⟩
instance : TN Tryz.prog 264 := ⟨_, Tryz.underlying264, rfl⟩
instance : TI Tryz.prog 264 1 8 .nilFunc := .of_map (by kernel_rfl)
instance : TA Tryz.prog 265 false := ⟨_, Tryz.underlying265, rfl⟩
instance : TN Tryz.prog 265 := ⟨_, Tryz.underlying265, rfl⟩
instance : TI Tryz.prog 265 1 8 .nilFunc := .of_map (by kernel_rfl)
instance : TA Tryz.prog 266 true := ⟨_, Tryz.underlying266, rfl⟩
instance : TN Tryz.prog 266 := ⟨_, Tryz.underlying266, rfl⟩
instance : TF Tryz.prog 266 0 0 264 := ⟨_, _, Tryz.underlying266, rfl, rfl, rfl⟩
instance : TF Tryz.prog 266 1 1 265 := ⟨_, _, Tryz.underlying266, rfl, rfl, rfl⟩
instance : TS Tryz.prog 266 [(0, 1), (1, 1)] := ⟨_, Tryz.underlying266, fun _ _ => by kernel_rfl⟩
instance : TI Tryz.prog 266 2 16 (.agg #[.nilFunc, .nilFunc]) := .of_map (by kernel_rfl)
instance : TA Tryz.prog 267 true := ⟨_, Tryz.underlying267, rfl⟩
instance : TN Tryz.prog 267 := ⟨_, Tryz.underlying267, rfl⟩
instance : TF Tryz.prog 267 0 0 264 := ⟨_, _, Tryz.underlying267, rfl, rfl, rfl⟩
instance : TF Tryz.prog 267 1 1 265 := ⟨_, _, Tryz.underlying267, rfl, rfl, rfl⟩
instance : TS Tryz.prog 267 [(0, 1), (1, 1)] := ⟨_, Tryz.underlying267, fun _ _ => by kernel_rfl⟩
instance : TI Tryz.prog 267 2 16 (.agg #[.nilFunc, .nilFunc]) := .of_map (by kernel_rfl)
instance : TA Tryz.prog 268 false := ⟨_, Tryz.underlying268, rfl⟩
instance : TN Tryz.prog 268 := ⟨_, Tryz.underlying268, rfl⟩
instance : TU Tryz.prog 268 (.slice 288) := ⟨Tryz.underlying268⟩
instance : TI Tryz.prog 268 1 24 (.slice none 0 0) := .of_map (by kernel_rfl)
instance : TA Tryz.prog 269 true := ⟨_, Tryz.underlying269, rfl⟩
instance : TN Tryz.prog 269 := ⟨_, Tryz.underlying269, rfl⟩
instance : TF Tryz.prog 269 0 0 24 := ⟨_, _, Tryz.underlying269, rfl, rfl, rfl⟩
instance : TF Tryz.prog 269 1 8 3 := ⟨_, _, Tryz.underlying269, rfl, rfl, rfl⟩
instance : TF Tryz.prog 269 2 9 3 := ⟨_, _, Tryz.underlying269, rfl, rfl, rfl⟩
instance : TF Tryz.prog 269 3 10 3 := ⟨_, _, Tryz.underlying269, rfl, rfl, rfl⟩
instance : TF Tryz.prog 269 4 11 3 := ⟨_, _, Tryz.underlying269, rfl, rfl, rfl⟩
instance : TF Tryz.prog 269 5 12 268 := ⟨_, _, Tryz.underlying269, rfl, rfl, rfl⟩
instance : TF Tryz.prog 269 6 13 73 := ⟨_, _, Tryz.underlying269, rfl, rfl, rfl⟩
instance : TF Tryz.prog 269 7 17 73 := ⟨_, _, Tryz.underlying269, rfl, rfl, rfl⟩
instance : TS Tryz.prog 269 [(0, 8), (8, 1), (9, 1), (10, 1), (11, 1), (12, 1), (13, 4), (17, 4)] := ⟨_, Tryz.underlying269, fun _ _ => by kernel_rfl⟩
instance : TI Tryz.prog 269 21 216 (.agg #[(.int .i64 0), (.int .i64 0), (.int .i64 0), (.int .i64 0), (.int .i64 0), (.int .i64 0), (.slice none 0 0), (.slice none 0 0), (.int .i64 0), (.int .i64 0), (.int .i64 0), (.int .i64 0), (.slice none 0 0), (.int .i64 0), (.int .i64 0), (.bool false), (.int .i64 0), (.int .i64 0), (.int .i64 0), (.bool false), (.int .i64 0)]) := .of_map (by kernel_rfl)
instance : TA Tryz.prog 270 true := ⟨_, Tryz.underlying270, rfl⟩
instance : TN Tryz.prog 270 := ⟨_, Tryz.underlying270, rfl⟩
instance : TF Tryz.prog 270 0 0 24 := ⟨_, _, Tryz.underlying270, rfl, rfl, rfl⟩
instance : TF Tryz.prog 270 1 8 3 := ⟨_, _, Tryz.underlying270, rfl, rfl, rfl⟩
instance : TF Tryz.prog 270 2 9 3 := ⟨_, _, Tryz.underlying270, rfl, rfl, rfl⟩
instance : TF Tryz.prog 270 3 10 3 := ⟨_, _, Tryz.underlying270, rfl, rfl, rfl⟩
instance : TF Tryz.prog 270 4 11 3 := ⟨_, _, Tryz.underlying270, rfl, rfl, rfl⟩
instance : TF Tryz.prog 270 5 12 268 := ⟨_, _, Tryz.underlying270, rfl, rfl, rfl⟩
instance : TF Tryz.prog 270 6 13 73 := ⟨_, _, Tryz.underlying270, rfl, rfl, rfl⟩
instance : TF Tryz.prog 270 7 17 73 := ⟨_, _, Tryz.underlying270, rfl, rfl, rfl⟩
instance : TS Tryz.prog 270 [(0, 8), (8, 1), (9, 1), (10, 1), (11, 1), (12, 1), (13, 4), (17, 4)] := ⟨_, Tryz.underlying270, fun _ _ => by kernel_rfl⟩
instance : TI Tryz.prog 270 21 216 (.agg #[(.int .i64 0), (.int .i64 0), (.int .i64 0), (.int .i64 0), (.int .i64 0), (.int .i64 0), (.slice none 0 0), (.slice none 0 0), (.int .i64 0), (.int .i64 0), (.int .i64 0), (.int .i64 0), (.slice none 0 0), (.int .i64 0), (.int .i64 0), (.bool false), (.int .i64 0), (.int .i64 0), (.int .i64 0), (.bool false), (.int .i64 0)]) := .of_map (by kernel_rfl)
instance : TA Tryz.prog 271 false := ⟨_, Tryz.underlying271, rfl⟩
instance : TN Tryz.prog 271 := ⟨_, Tryz.underlying271, rfl⟩
instance : TI Tryz.prog 271 1 8 .nilFunc := .of_map (by kernel_rfl)
instance : TA Tryz.prog 272 false := ⟨_, Tryz.underlying272, rfl⟩
instance : TN Tryz.prog 272 := ⟨_, Tryz.underlying272, rfl⟩
instance : TI Tryz.prog 272 1 8 .nilFunc := .of_map (by kernel_rfl)
instance : TA Tryz.prog 273 false := ⟨_, Tryz.underlying273, rfl⟩
instance : TN Tryz.prog 273 := ⟨_, Tryz.underlying273, rfl⟩
instance : TI Tryz.prog 273 1 8 .nilFunc := .of_map (by kernel_rfl)
instance : TA Tryz.prog 274 false := ⟨_, Tryz.underlying274, rfl⟩
instance : TN Tryz.prog 274 := ⟨_, Tryz.underlying274, rfl⟩
instance : TI Tryz.prog 274 1 8 .nilFunc := .of_map (by kernel_rfl)
instance : TA Tryz.prog 275 false := ⟨_, Tryz.underlying275, rfl⟩
instance : TN Tryz.prog 275 := ⟨_, Tryz.underlying275, rfl⟩
instance : TI Tryz.prog 275 1 8 .nilFunc := .of_map (by kernel_rfl)
instance : TA Tryz.prog 276 false := ⟨_, Tryz.underlying276, rfl⟩
instance : TN Tryz.prog 276 := ⟨_, Tryz.underlying276, rfl⟩
instance : TI Tryz.prog 276 1 8 .nilFunc := .of_map (by kernel_rfl)
instance : TA Tryz.prog 277 false := ⟨_, Tryz.underlying277, rfl⟩
instance : TN Tryz.prog 277 := ⟨_, Tryz.underlying277, rfl⟩
instance : TU Tryz.prog 277 (.pointer 172) := ⟨Tryz.underlying277⟩
instance : TI Tryz.prog 277 1 8 (.pointer none) := .of_map (by kernel_rfl)
instance : Meth Tryz.prog 277 "Lock" 231 := ⟨fun _ _ _ => by kernel_rfl⟩
instance : Meth Tryz.prog 277 "Unlock" 232 := ⟨fun _ _ _ => by kernel_rfl⟩
instance : TA Tryz.prog 278 true := ⟨_, Tryz.underlying278, rfl⟩
instance : TN Tryz.prog 278 := ⟨_, Tryz.underlying278, rfl⟩
instance : TF Tryz.prog 278 0 0 24 := ⟨_, _, Tryz.underlying278, rfl, rfl, rfl⟩
instance : TF Tryz.prog 278 1 8 22 := ⟨_, _, Tryz.underlying278, rfl, rfl, rfl⟩
instance : TF Tryz.prog 278 2 9 4 := ⟨_, _, Tryz.underlying278, rfl, rfl, rfl⟩
instance : TF Tryz.prog 278 3 10 3 := ⟨_, _, Tryz.underlying278, rfl, rfl, rfl⟩
instance : TF Tryz.prog 278 4 11 3 := ⟨_, _, Tryz.underlying278, rfl, rfl, rfl⟩
instance : TF Tryz.prog 278 5 12 4 := ⟨_, _, Tryz.underlying278, rfl, rfl, rfl⟩
instance : TF Tryz.prog 278 6 13 73 := ⟨_, _, Tryz.underlying278, rfl, rfl, rfl⟩
instance : TS Tryz.prog 278 [(0, 8), (8, 1), (9, 1), (10, 1), (11, 1), (12, 1), (13, 4)] := ⟨_, Tryz.underlying278, fun _ _ => by kernel_rfl⟩
instance : TI Tryz.prog 278 17 184 (.agg #[(.int .i64 0), (.int .i64 0), (.int .i64 0), (.int .i64 0), (.int .i64 0), (.int .i64 0), (.slice none 0 0), (.slice none 0 0), (.slice none 0 0), (.bool false), (.int .i64 0), (.int .i64 0), (.bool false), (.int .i64 0), (.int .i64 0), (.bool false), (.int .i64 0)]) := .of_map (by kernel_rfl)
instance : TA Tryz.prog 279 true := ⟨_, Tryz.underlying279, rfl⟩
instance : TN Tryz.prog 279 := ⟨_, Tryz.underlying279, rfl⟩
instance : TF Tryz.prog 279 0 0 24 := ⟨_, _, Tryz.underlying279, rfl, rfl, rfl⟩
instance : TF Tryz.prog 279 1 8 22 := ⟨_, _, Tryz.underlying279, rfl, rfl, rfl⟩
instance : TF Tryz.prog 279 2 9 4 := ⟨_, _, Tryz.underlying279, rfl, rfl, rfl⟩
instance : TF Tryz.prog 279 3 10 3 := ⟨_, _, Tryz.underlying279, rfl, rfl, rfl⟩
instance : TF Tryz.prog 279 4 11 3 := ⟨_, _, Tryz.underlying279, rfl, rfl, rfl⟩
instance : TF Tryz.prog 279 5 12 4 := ⟨_, _, Tryz.underlying279, rfl, rfl, rfl⟩
instance : TF Tryz.prog 279 6 13 73 := ⟨_, _, Tryz.underlying279, rfl, rfl, rfl⟩
instance : TS Tryz.prog 279 [(0, 8), (8, 1), (9, 1), (10, 1), (11, 1), (12, 1), (13, 4)] := ⟨_, Tryz.underlying279, fun _ _ => by kernel_rfl⟩
instance : TI Tryz.prog 279 17 184 (.agg #[(.int .i64 0), (.int .i64 0), (.int .i64 0), (.int .i64 0), (.int .i64 0), (.int .i64 0), (.slice none 0 0), (.slice none 0 0), (.slice none 0 0), (.bool false), (.int .i64 0), (.int .i64 0), (.bool false), (.int .i64 0), (.int .i64 0), (.bool false), (.int .i64 0)]) := .of_map (by kernel_rfl)
instance : TA Tryz.prog 280 false := ⟨_, Tryz.underlying280, rfl⟩
instance : TN Tryz.prog 280 := ⟨_, Tryz.underlying280, rfl⟩
instance : TI Tryz.prog 280 1 8 .nilFunc := .of_map (by kernel_rfl)
instance : TA Tryz.prog 281 false := ⟨_, Tryz.underlying281, rfl⟩
instance : TN Tryz.prog 281 := ⟨_, Tryz.underlying281, rfl⟩
instance : TU Tryz.prog 281 (.pointer 306) := ⟨Tryz.underlying281⟩
instance : TI Tryz.prog 281 1 8 (.pointer none) := .of_map (by kernel_rfl)
instance : Meth Tryz.prog 281 "Ans" 373 := ⟨fun _ _ _ => by kernel_rfl⟩
instance : Meth Tryz.prog 281 "Step" 374 := ⟨fun _ _ _ => by kernel_rfl⟩
instance : Meth Tryz.prog 281 "breadline/pool.priced" 377 := ⟨fun _ _ _ => by kernel_rfl⟩
instance : Meth Tryz.prog 281 "breadline/pool.step" 375 := ⟨fun _ _ _ => by kernel_rfl⟩
instance : TA Tryz.prog 282 false := ⟨_, Tryz.underlying282, rfl⟩
instance : TN Tryz.prog 282 := ⟨_, Tryz.underlying282, rfl⟩
instance : TI Tryz.prog 282 1 8 .nilFunc := .of_map (by kernel_rfl)
instance : TA Tryz.prog 283 false := ⟨_, Tryz.underlying283, rfl⟩
instance : TN Tryz.prog 283 := ⟨_, Tryz.underlying283, rfl⟩
instance : TU Tryz.prog 283 (.pointer 314) := ⟨Tryz.underlying283⟩
instance : TI Tryz.prog 283 1 8 (.pointer none) := .of_map (by kernel_rfl)
instance : Meth Tryz.prog 283 "Ans" 378 := ⟨fun _ _ _ => by kernel_rfl⟩
instance : Meth Tryz.prog 283 "Step" 379 := ⟨fun _ _ _ => by kernel_rfl⟩
instance : Meth Tryz.prog 283 "breadline/add.again" 334 := ⟨fun _ _ _ => by kernel_rfl⟩
instance : Meth Tryz.prog 283 "breadline/add.begin" 303 := ⟨fun _ _ _ => by kernel_rfl⟩
instance : Meth Tryz.prog 283 "breadline/add.close" 338 := ⟨fun _ _ _ => by kernel_rfl⟩
instance : Meth Tryz.prog 283 "breadline/add.empty" 332 := ⟨fun _ _ _ => by kernel_rfl⟩
instance : Meth Tryz.prog 283 "breadline/add.flush" 335 := ⟨fun _ _ _ => by kernel_rfl⟩
instance : Meth Tryz.prog 283 "breadline/add.grow" 333 := ⟨fun _ _ _ => by kernel_rfl⟩
instance : Meth Tryz.prog 283 "breadline/add.keep" 328 := ⟨fun _ _ _ => by kernel_rfl⟩
instance : Meth Tryz.prog 283 "breadline/add.look" 325 := ⟨fun _ _ _ => by kernel_rfl⟩
instance : Meth Tryz.prog 283 "breadline/add.miss" 331 := ⟨fun _ _ _ => by kernel_rfl⟩
instance : Meth Tryz.prog 283 "breadline/add.open" 329 := ⟨fun _ _ _ => by kernel_rfl⟩
instance : Meth Tryz.prog 283 "breadline/add.undo" 336 := ⟨fun _ _ _ => by kernel_rfl⟩
instance : Meth Tryz.prog 283 "breadline/add.with" 330 := ⟨fun _ _ _ => by kernel_rfl⟩
instance : Meth Tryz.prog 283 "breadline/add.word" 323 := ⟨fun _ _ _ => by kernel_rfl⟩
instance : TA Tryz.prog 284 false := ⟨_, Tryz.underlying284, rfl⟩
instance : TN Tryz.prog 284 := ⟨_, Tryz.underlying284, rfl⟩
instance : TI Tryz.prog 284 1 8 .nilFunc := .of_map (by kernel_rfl)
instance : TA Tryz.prog 285 true := ⟨_, Tryz.underlying285, rfl⟩
instance : TN Tryz.prog 285 := ⟨_, Tryz.underlying285, rfl⟩
instance : TF Tryz.prog 285 0 0 3 := ⟨_, _, Tryz.underlying285, rfl, rfl, rfl⟩
instance : TF Tryz.prog 285 1 1 3 := ⟨_, _, Tryz.underlying285, rfl, rfl, rfl⟩
instance : TS Tryz.prog 285 [(0, 1), (1, 1)] := ⟨_, Tryz.underlying285, fun _ _ => by kernel_rfl⟩
instance : TI Tryz.prog 285 2 16 (.agg #[(.int .i64 0), (.int .i64 0)]) := .of_map (by kernel_rfl)
instance : TA Tryz.prog 286 true := ⟨_, Tryz.underlying286, rfl⟩
instance : TN Tryz.prog 286 := ⟨_, Tryz.underlying286, rfl⟩
instance : TF Tryz.prog 286 0 0 3 := ⟨_, _, Tryz.underlying286, rfl, rfl, rfl⟩
instance : TF Tryz.prog 286 1 1 3 := ⟨_, _, Tryz.underlying286, rfl, rfl, rfl⟩
instance : TS Tryz.prog 286 [(0, 1), (1, 1)] := ⟨_, Tryz.underlying286, fun _ _ => by kernel_rfl⟩
instance : TI Tryz.prog 286 2 16 (.agg #[(.int .i64 0), (.int .i64 0)]) := .of_map (by kernel_rfl)
instance : TA Tryz.prog 287 false := ⟨_, Tryz.underlying287, rfl⟩
instance : TN Tryz.prog 287 := ⟨_, Tryz.underlying287, rfl⟩
instance : TI Tryz.prog 287 1 8 .nilFunc := .of_map (by kernel_rfl)
instance : TA Tryz.prog 288 false := ⟨_, Tryz.underlying288, rfl⟩
instance : TN Tryz.prog 288 := ⟨_, Tryz.underlying288, rfl⟩
instance : TI Tryz.prog 288 1 8 .nilFunc := .of_map (by kernel_rfl)
instance : TA Tryz.prog 289 false := ⟨_, Tryz.underlying289, rfl⟩
instance : TN Tryz.prog 289 := ⟨_, Tryz.underlying289, rfl⟩
instance : TI Tryz.prog 289 1 8 .nilFunc := .of_map (by kernel_rfl)
instance : TA Tryz.prog 290 false := ⟨_, Tryz.underlying290, rfl⟩
instance : TN Tryz.prog 290 := ⟨_, Tryz.underlying290, rfl⟩
instance : TU Tryz.prog 290 (.slice 345) := ⟨Tryz.underlying290⟩
instance : TI Tryz.prog 290 1 24 (.slice none 0 0) := .of_map (by kernel_rfl)
instance : TA Tryz.prog 291 true := ⟨_, Tryz.underlying291, rfl⟩
instance : TN Tryz.prog 291 := ⟨_, Tryz.underlying291, rfl⟩
instance : TF Tryz.prog 291 0 0 3 := ⟨_, _, Tryz.underlying291, rfl, rfl, rfl⟩
instance : TF Tryz.prog 291 1 1 3 := ⟨_, _, Tryz.underlying291, rfl, rfl, rfl⟩
instance : TF Tryz.prog 291 2 2 3 := ⟨_, _, Tryz.underlying291, rfl, rfl, rfl⟩
instance : TF Tryz.prog 291 3 3 3 := ⟨_, _, Tryz.underlying291, rfl, rfl, rfl⟩
instance : TF Tryz.prog 291 4 4 3 := ⟨_, _, Tryz.underlying291, rfl, rfl, rfl⟩
instance : TF Tryz.prog 291 5 5 290 := ⟨_, _, Tryz.underlying291, rfl, rfl, rfl⟩
instance : TF Tryz.prog 291 6 6 3 := ⟨_, _, Tryz.underlying291, rfl, rfl, rfl⟩
instance : TF Tryz.prog 291 7 7 73 := ⟨_, _, Tryz.underlying291, rfl, rfl, rfl⟩
instance : TS Tryz.prog 291 [(0, 1), (1, 1), (2, 1), (3, 1), (4, 1), (5, 1), (6, 1), (7, 4)] := ⟨_, Tryz.underlying291, fun _ _ => by kernel_rfl⟩
instance : TI Tryz.prog 291 11 104 (.agg #[(.int .i64 0), (.int .i64 0), (.int .i64 0), (.int .i64 0), (.int .i64 0), (.slice none 0 0), (.int .i64 0), (.int .i64 0), (.int .i64 0), (.bool false), (.int .i64 0)]) := .of_map (by kernel_rfl)
instance : TA Tryz.prog 292 true := ⟨_, Tryz.underlying292, rfl⟩
instance : TN Tryz.prog 292 := ⟨_, Tryz.underlying292, rfl⟩
instance : TF Tryz.prog 292 0 0 3 := ⟨_, _, Tryz.underlying292, rfl, rfl, rfl⟩
instance : TF Tryz.prog 292 1 1 3 := ⟨_, _, Tryz.underlying292, rfl, rfl, rfl⟩
instance : TF Tryz.prog 292 2 2 3 := ⟨_, _, Tryz.underlying292, rfl, rfl, rfl⟩
instance : TF Tryz.prog 292 3 3 3 := ⟨_, _, Tryz.underlying292, rfl, rfl, rfl⟩
instance : TF Tryz.prog 292 4 4 3 := ⟨_, _, Tryz.underlying292, rfl, rfl, rfl⟩
instance : TF Tryz.prog 292 5 5 290 := ⟨_, _, Tryz.underlying292, rfl, rfl, rfl⟩
instance : TF Tryz.prog 292 6 6 3 := ⟨_, _, Tryz.underlying292, rfl, rfl, rfl⟩
instance : TF Tryz.prog 292 7 7 73 := ⟨_, _, Tryz.underlying292, rfl, rfl, rfl⟩
instance : TS Tryz.prog 292 [(0, 1), (1, 1), (2, 1), (3, 1), (4, 1), (5, 1), (6, 1), (7, 4)] := ⟨_, Tryz.underlying292, fun _ _ => by kernel_rfl⟩
instance : TI Tryz.prog 292 11 104 (.agg #[(.int .i64 0), (.int .i64 0), (.int .i64 0), (.int .i64 0), (.int .i64 0), (.slice none 0 0), (.int .i64 0), (.int .i64 0), (.int .i64 0), (.bool false), (.int .i64 0)]) := .of_map (by kernel_rfl)
instance : TA Tryz.prog 293 false := ⟨_, Tryz.underlying293, rfl⟩
instance : TN Tryz.prog 293 := ⟨_, Tryz.underlying293, rfl⟩
instance : TI Tryz.prog 293 1 8 .nilFunc := .of_map (by kernel_rfl)
instance : TA Tryz.prog 294 true := ⟨_, Tryz.underlying294, rfl⟩
instance : TN Tryz.prog 294 := ⟨_, Tryz.underlying294, rfl⟩
instance : TF Tryz.prog 294 0 0 3 := ⟨_, _, Tryz.underlying294, rfl, rfl, rfl⟩
instance : TF Tryz.prog 294 1 1 3 := ⟨_, _, Tryz.underlying294, rfl, rfl, rfl⟩
instance : TF Tryz.prog 294 2 2 3 := ⟨_, _, Tryz.underlying294, rfl, rfl, rfl⟩
instance : TF Tryz.prog 294 3 3 220 := ⟨_, _, Tryz.underlying294, rfl, rfl, rfl⟩
instance : TF Tryz.prog 294 4 4 132 := ⟨_, _, Tryz.underlying294, rfl, rfl, rfl⟩
instance : TF Tryz.prog 294 5 5 73 := ⟨_, _, Tryz.underlying294, rfl, rfl, rfl⟩
instance : TF Tryz.prog 294 6 9 4 := ⟨_, _, Tryz.underlying294, rfl, rfl, rfl⟩
instance : TS Tryz.prog 294 [(0, 1), (1, 1), (2, 1), (3, 1), (4, 1), (5, 4), (9, 1)] := ⟨_, Tryz.underlying294, fun _ _ => by kernel_rfl⟩
instance : TI Tryz.prog 294 10 80 (.agg #[(.int .i64 0), (.int .i64 0), (.int .i64 0), .nilFunc, .nilFunc, (.int .i64 0), (.int .i64 0), (.bool false), (.int .i64 0), (.bool false)]) := .of_map (by kernel_rfl)
instance : TA Tryz.prog 295 true := ⟨_, Tryz.underlying295, rfl⟩
instance : TN Tryz.prog 295 := ⟨_, Tryz.underlying295, rfl⟩
instance : TF Tryz.prog 295 0 0 3 := ⟨_, _, Tryz.underlying295, rfl, rfl, rfl⟩
instance : TF Tryz.prog 295 1 1 3 := ⟨_, _, Tryz.underlying295, rfl, rfl, rfl⟩
instance : TF Tryz.prog 295 2 2 3 := ⟨_, _, Tryz.underlying295, rfl, rfl, rfl⟩
instance : TF Tryz.prog 295 3 3 220 := ⟨_, _, Tryz.underlying295, rfl, rfl, rfl⟩
instance : TF Tryz.prog 295 4 4 132 := ⟨_, _, Tryz.underlying295, rfl, rfl, rfl⟩
instance : TF Tryz.prog 295 5 5 73 := ⟨_, _, Tryz.underlying295, rfl, rfl, rfl⟩
instance : TF Tryz.prog 295 6 9 4 := ⟨_, _, Tryz.underlying295, rfl, rfl, rfl⟩
instance : TS Tryz.prog 295 [(0, 1), (1, 1), (2, 1), (3, 1), (4, 1), (5, 4), (9, 1)] := ⟨_, Tryz.underlying295, fun _ _ => by kernel_rfl⟩
instance : TI Tryz.prog 295 10 80 (.agg #[(.int .i64 0), (.int .i64 0), (.int .i64 0), .nilFunc, .nilFunc, (.int .i64 0), (.int .i64 0), (.bool false), (.int .i64 0), (.bool false)]) := .of_map (by kernel_rfl)
instance : TA Tryz.prog 296 true := ⟨_, Tryz.underlying296, rfl⟩
instance : TN Tryz.prog 296 := ⟨_, Tryz.underlying296, rfl⟩
instance : TF Tryz.prog 296 0 0 3 := ⟨_, _, Tryz.underlying296, rfl, rfl, rfl⟩
instance : TF Tryz.prog 296 1 1 3 := ⟨_, _, Tryz.underlying296, rfl, rfl, rfl⟩
instance : TS Tryz.prog 296 [(0, 1), (1, 1)] := ⟨_, Tryz.underlying296, fun _ _ => by kernel_rfl⟩
instance : TI Tryz.prog 296 2 16 (.agg #[(.int .i64 0), (.int .i64 0)]) := .of_map (by kernel_rfl)
instance : TA Tryz.prog 297 true := ⟨_, Tryz.underlying297, rfl⟩
instance : TN Tryz.prog 297 := ⟨_, Tryz.underlying297, rfl⟩
instance : TF Tryz.prog 297 0 0 3 := ⟨_, _, Tryz.underlying297, rfl, rfl, rfl⟩
instance : TF Tryz.prog 297 1 1 3 := ⟨_, _, Tryz.underlying297, rfl, rfl, rfl⟩
instance : TS Tryz.prog 297 [(0, 1), (1, 1)] := ⟨_, Tryz.underlying297, fun _ _ => by kernel_rfl⟩
instance : TI Tryz.prog 297 2 16 (.agg #[(.int .i64 0), (.int .i64 0)]) := .of_map (by kernel_rfl)
instance : TA Tryz.prog 298 false := ⟨_, Tryz.underlying298, rfl⟩
instance : TN Tryz.prog 298 := ⟨_, Tryz.underlying298, rfl⟩
instance : TU Tryz.prog 298 (.int .i64) := ⟨Tryz.underlying298⟩
instance : TI Tryz.prog 298 1 8 (.int .i64 0) := .of_map (by kernel_rfl)
instance : TA Tryz.prog 299 false := ⟨_, Tryz.underlying299, rfl⟩
instance : TN Tryz.prog 299 := ⟨_, Tryz.underlying299, rfl⟩
instance : TU Tryz.prog 299 (.pointer 170) := ⟨Tryz.underlying299⟩
instance : TI Tryz.prog 299 1 8 (.pointer none) := .of_map (by kernel_rfl)
instance : Meth Tryz.prog 299 "Lock" 259 := ⟨fun _ _ _ => by kernel_rfl⟩
instance : Meth Tryz.prog 299 "Unlock" 260 := ⟨fun _ _ _ => by kernel_rfl⟩
instance : Meth Tryz.prog 299 "internal/sync.lockSlow" 293 := ⟨fun _ _ _ => by kernel_rfl⟩
instance : Meth Tryz.prog 299 "internal/sync.unlockSlow" 295 := ⟨fun _ _ _ => by kernel_rfl⟩
instance : TA Tryz.prog 300 false := ⟨_, Tryz.underlying300, rfl⟩
instance : TN Tryz.prog 300 := ⟨_, Tryz.underlying300, rfl⟩
instance : TI Tryz.prog 300 1 8 .nilFunc := .of_map (by kernel_rfl)
instance : TA Tryz.prog 301 false := ⟨_, Tryz.underlying301, rfl⟩
instance : TN Tryz.prog 301 := ⟨_, Tryz.underlying301, rfl⟩
instance : TU Tryz.prog 301 (.pointer 21) := ⟨Tryz.underlying301⟩
instance : TI Tryz.prog 301 1 8 (.pointer none) := .of_map (by kernel_rfl)
instance : TA Tryz.prog 302 false := ⟨_, Tryz.underlying302, rfl⟩
instance : TN Tryz.prog 302 := ⟨_, Tryz.underlying302, rfl⟩
instance : TI Tryz.prog 302 1 8 .nilFunc := .of_map (by kernel_rfl)
instance : TA Tryz.prog 303 false := ⟨_, Tryz.underlying303, rfl⟩
instance : TN Tryz.prog 303 := ⟨_, Tryz.underlying303, rfl⟩
instance : TI Tryz.prog 303 1 8 .nilFunc := .of_map (by kernel_rfl)
instance : TA Tryz.prog 304 false := ⟨_, Tryz.underlying304, rfl⟩
instance : TN Tryz.prog 304 := ⟨_, Tryz.underlying304, rfl⟩
instance : TU Tryz.prog 304 (.int .i64) := ⟨Tryz.underlying304⟩
instance : TI Tryz.prog 304 1 8 (.int .i64 0) := .of_map (by kernel_rfl)
instance : TA Tryz.prog 305 true := ⟨_, Tryz.underlying305, rfl⟩
instance : TN Tryz.prog 305 := ⟨_, Tryz.underlying305, rfl⟩
instance : TF Tryz.prog 305 0 0 3 := ⟨_, _, Tryz.underlying305, rfl, rfl, rfl⟩
instance : TF Tryz.prog 305 1 1 3 := ⟨_, _, Tryz.underlying305, rfl, rfl, rfl⟩
instance : TF Tryz.prog 305 2 2 3 := ⟨_, _, Tryz.underlying305, rfl, rfl, rfl⟩
instance : TF Tryz.prog 305 3 3 3 := ⟨_, _, Tryz.underlying305, rfl, rfl, rfl⟩
instance : TF Tryz.prog 305 4 4 3 := ⟨_, _, Tryz.underlying305, rfl, rfl, rfl⟩
instance : TF Tryz.prog 305 5 5 304 := ⟨_, _, Tryz.underlying305, rfl, rfl, rfl⟩
instance : TF Tryz.prog 305 6 6 3 := ⟨_, _, Tryz.underlying305, rfl, rfl, rfl⟩
instance : TF Tryz.prog 305 7 7 3 := ⟨_, _, Tryz.underlying305, rfl, rfl, rfl⟩
instance : TF Tryz.prog 305 8 8 3 := ⟨_, _, Tryz.underlying305, rfl, rfl, rfl⟩
instance : TF Tryz.prog 305 9 9 73 := ⟨_, _, Tryz.underlying305, rfl, rfl, rfl⟩
instance : TS Tryz.prog 305 [(0, 1), (1, 1), (2, 1), (3, 1), (4, 1), (5, 1), (6, 1), (7, 1), (8, 1), (9, 4)] := ⟨_, Tryz.underlying305, fun _ _ => by kernel_rfl⟩
instance : TI Tryz.prog 305 13 104 (.agg #[(.int .i64 0), (.int .i64 0), (.int .i64 0), (.int .i64 0), (.int .i64 0), (.int .i64 0), (.int .i64 0), (.int .i64 0), (.int .i64 0), (.int .i64 0), (.int .i64 0), (.bool false), (.int .i64 0)]) := .of_map (by kernel_rfl)
instance : TA Tryz.prog 306 true := ⟨_, Tryz.underlying306, rfl⟩
instance : TN Tryz.prog 306 := ⟨_, Tryz.underlying306, rfl⟩
instance : TF Tryz.prog 306 0 0 3 := ⟨_, _, Tryz.underlying306, rfl, rfl, rfl⟩
instance : TF Tryz.prog 306 1 1 3 := ⟨_, _, Tryz.underlying306, rfl, rfl, rfl⟩
instance : TF Tryz.prog 306 2 2 3 := ⟨_, _, Tryz.underlying306, rfl, rfl, rfl⟩
instance : TF Tryz.prog 306 3 3 3 := ⟨_, _, Tryz.underlying306, rfl, rfl, rfl⟩
instance : TF Tryz.prog 306 4 4 3 := ⟨_, _, Tryz.underlying306, rfl, rfl, rfl⟩
instance : TF Tryz.prog 306 5 5 304 := ⟨_, _, Tryz.underlying306, rfl, rfl, rfl⟩
instance : TF Tryz.prog 306 6 6 3 := ⟨_, _, Tryz.underlying306, rfl, rfl, rfl⟩
instance : TF Tryz.prog 306 7 7 3 := ⟨_, _, Tryz.underlying306, rfl, rfl, rfl⟩
instance : TF Tryz.prog 306 8 8 3 := ⟨_, _, Tryz.underlying306, rfl, rfl, rfl⟩
instance : TF Tryz.prog 306 9 9 73 := ⟨_, _, Tryz.underlying306, rfl, rfl, rfl⟩
instance : TS Tryz.prog 306 [(0, 1), (1, 1), (2, 1), (3, 1), (4, 1), (5, 1), (6, 1), (7, 1), (8, 1), (9, 4)] := ⟨_, Tryz.underlying306, fun _ _ => by kernel_rfl⟩
instance : TI Tryz.prog 306 13 104 (.agg #[(.int .i64 0), (.int .i64 0), (.int .i64 0), (.int .i64 0), (.int .i64 0), (.int .i64 0), (.int .i64 0), (.int .i64 0), (.int .i64 0), (.int .i64 0), (.int .i64 0), (.bool false), (.int .i64 0)]) := .of_map (by kernel_rfl)
instance : TA Tryz.prog 307 false := ⟨_, Tryz.underlying307, rfl⟩
instance : TN Tryz.prog 307 := ⟨_, Tryz.underlying307, rfl⟩
instance : TU Tryz.prog 307 (.pointer 309) := ⟨Tryz.underlying307⟩
instance : TI Tryz.prog 307 1 8 (.pointer none) := .of_map (by kernel_rfl)
instance : Meth Tryz.prog 307 "Ans" 380 := ⟨fun _ _ _ => by kernel_rfl⟩
instance : Meth Tryz.prog 307 "Step" 381 := ⟨fun _ _ _ => by kernel_rfl⟩
instance : TA Tryz.prog 308 true := ⟨_, Tryz.underlying308, rfl⟩
instance : TN Tryz.prog 308 := ⟨_, Tryz.underlying308, rfl⟩
instance : TF Tryz.prog 308 0 0 3 := ⟨_, _, Tryz.underlying308, rfl, rfl, rfl⟩
instance : TF Tryz.prog 308 1 1 3 := ⟨_, _, Tryz.underlying308, rfl, rfl, rfl⟩
instance : TF Tryz.prog 308 2 2 4 := ⟨_, _, Tryz.underlying308, rfl, rfl, rfl⟩
instance : TS Tryz.prog 308 [(0, 1), (1, 1), (2, 1)] := ⟨_, Tryz.underlying308, fun _ _ => by kernel_rfl⟩
instance : TI Tryz.prog 308 3 24 (.agg #[(.int .i64 0), (.int .i64 0), (.bool false)]) := .of_map (by kernel_rfl)
instance : TA Tryz.prog 309 true := ⟨_, Tryz.underlying309, rfl⟩
instance : TN Tryz.prog 309 := ⟨_, Tryz.underlying309, rfl⟩
instance : TF Tryz.prog 309 0 0 3 := ⟨_, _, Tryz.underlying309, rfl, rfl, rfl⟩
instance : TF Tryz.prog 309 1 1 3 := ⟨_, _, Tryz.underlying309, rfl, rfl, rfl⟩
instance : TF Tryz.prog 309 2 2 4 := ⟨_, _, Tryz.underlying309, rfl, rfl, rfl⟩
instance : TS Tryz.prog 309 [(0, 1), (1, 1), (2, 1)] := ⟨_, Tryz.underlying309, fun _ _ => by kernel_rfl⟩
instance : TI Tryz.prog 309 3 24 (.agg #[(.int .i64 0), (.int .i64 0), (.bool false)]) := .of_map (by kernel_rfl)
instance : TA Tryz.prog 310 false := ⟨_, Tryz.underlying310, rfl⟩
instance : TN Tryz.prog 310 := ⟨_, Tryz.underlying310, rfl⟩
instance : TI Tryz.prog 310 1 8 .nilFunc := .of_map (by kernel_rfl)
instance : TA Tryz.prog 311 false := ⟨_, Tryz.underlying311, rfl⟩
instance : TN Tryz.prog 311 := ⟨_, Tryz.underlying311, rfl⟩
instance : TI Tryz.prog 311 1 8 .nilFunc := .of_map (by kernel_rfl)
instance : TA Tryz.prog 312 false := ⟨_, Tryz.underlying312, rfl⟩
instance : TN Tryz.prog 312 := ⟨_, Tryz.underlying312, rfl⟩
instance : TI Tryz.prog 312 1 8 .nilFunc := .of_map (by kernel_rfl)
instance : TA Tryz.prog 313 true := ⟨_, Tryz.underlying313, rfl⟩
instance : TN Tryz.prog 313 := ⟨_, Tryz.underlying313, rfl⟩
instance : TF Tryz.prog 313 0 0 3 := ⟨_, _, Tryz.underlying313, rfl, rfl, rfl⟩
instance : TF Tryz.prog 313 1 1 3 := ⟨_, _, Tryz.underlying313, rfl, rfl, rfl⟩
instance : TF Tryz.prog 313 2 2 3 := ⟨_, _, Tryz.underlying313, rfl, rfl, rfl⟩
instance : TF Tryz.prog 313 3 3 3 := ⟨_, _, Tryz.underlying313, rfl, rfl, rfl⟩
instance : TF Tryz.prog 313 4 4 3 := ⟨_, _, Tryz.underlying313, rfl, rfl, rfl⟩
instance : TF Tryz.prog 313 5 5 3 := ⟨_, _, Tryz.underlying313, rfl, rfl, rfl⟩
instance : TF Tryz.prog 313 6 6 3 := ⟨_, _, Tryz.underlying313, rfl, rfl, rfl⟩
instance : TF Tryz.prog 313 7 7 3 := ⟨_, _, Tryz.underlying313, rfl, rfl, rfl⟩
instance : TF Tryz.prog 313 8 8 3 := ⟨_, _, Tryz.underlying313, rfl, rfl, rfl⟩
instance : TF Tryz.prog 313 9 9 312 := ⟨_, _, Tryz.underlying313, rfl, rfl, rfl⟩
instance : TS Tryz.prog 313 [(0, 1), (1, 1), (2, 1), (3, 1), (4, 1), (5, 1), (6, 1), (7, 1), (8, 1), (9, 1)] := ⟨_, Tryz.underlying313, fun _ _ => by kernel_rfl⟩
instance : TI Tryz.prog 313 10 80 (.agg #[(.int .i64 0), (.int .i64 0), (.int .i64 0), (.int .i64 0), (.int .i64 0), (.int .i64 0), (.int .i64 0), (.int .i64 0), (.int .i64 0), .nilFunc]) := .of_map (by kernel_rfl)
instance : TA Tryz.prog 314 true := ⟨_, Tryz.underlying314, rfl⟩
instance : TN Tryz.prog 314 := ⟨_, Tryz.underlying314, rfl⟩
instance : TF Tryz.prog 314 0 0 3 := ⟨_, _, Tryz.underlying314, rfl, rfl, rfl⟩
instance : TF Tryz.prog 314 1 1 3 := ⟨_, _, Tryz.underlying314, rfl, rfl, rfl⟩
instance : TF Tryz.prog 314 2 2 3 := ⟨_, _, Tryz.underlying314, rfl, rfl, rfl⟩
instance : TF Tryz.prog 314 3 3 3 := ⟨_, _, Tryz.underlying314, rfl, rfl, rfl⟩
instance : TF Tryz.prog 314 4 4 3 := ⟨_, _, Tryz.underlying314, rfl, rfl, rfl⟩
instance : TF Tryz.prog 314 5 5 3 := ⟨_, _, Tryz.underlying314, rfl, rfl, rfl⟩
instance : TF Tryz.prog 314 6 6 3 := ⟨_, _, Tryz.underlying314, rfl, rfl, rfl⟩
instance : TF Tryz.prog 314 7 7 3 := ⟨_, _, Tryz.underlying314, rfl, rfl, rfl⟩
instance : TF Tryz.prog 314 8 8 3 := ⟨_, _, Tryz.underlying314, rfl, rfl, rfl⟩
instance : TF Tryz.prog 314 9 9 312 := ⟨_, _, Tryz.underlying314, rfl, rfl, rfl⟩
instance : TS Tryz.prog 314 [(0, 1), (1, 1), (2, 1), (3, 1), (4, 1), (5, 1), (6, 1), (7, 1), (8, 1), (9, 1)] := ⟨_, Tryz.underlying314, fun _ _ => by kernel_rfl⟩
instance : TI Tryz.prog 314 10 80 (.agg #[(.int .i64 0), (.int .i64 0), (.int .i64 0), (.int .i64 0), (.int .i64 0), (.int .i64 0), (.int .i64 0), (.int .i64 0), (.int .i64 0), .nilFunc]) := .of_map (by kernel_rfl)
instance : TA Tryz.prog 315 false := ⟨_, Tryz.underlying315, rfl⟩
instance : TN Tryz.prog 315 := ⟨_, Tryz.underlying315, rfl⟩
instance : TI Tryz.prog 315 1 8 .nilFunc := .of_map (by kernel_rfl)
instance : TA Tryz.prog 316 false := ⟨_, Tryz.underlying316, rfl⟩
instance : TN Tryz.prog 316 := ⟨_, Tryz.underlying316, rfl⟩
instance : TU Tryz.prog 316 (.pointer 3) := ⟨Tryz.underlying316⟩
instance : TI Tryz.prog 316 1 8 (.pointer none) := .of_map (by kernel_rfl)
instance : TA Tryz.prog 317 false := ⟨_, Tryz.underlying317, rfl⟩
instance : TN Tryz.prog 317 := ⟨_, Tryz.underlying317, rfl⟩
instance : TU Tryz.prog 317 (.pointer 197) := ⟨Tryz.underlying317⟩
instance : TI Tryz.prog 317 1 8 (.pointer none) := .of_map (by kernel_rfl)
instance : TA Tryz.prog 318 false := ⟨_, Tryz.underlying318, rfl⟩
instance : TN Tryz.prog 318 := ⟨_, Tryz.underlying318, rfl⟩
instance : TI Tryz.prog 318 1 8 .nilFunc := .of_map (by kernel_rfl)
instance : TA Tryz.prog 319 false := ⟨_, Tryz.underlying319, rfl⟩
instance : TN Tryz.prog 319 := ⟨_, Tryz.underlying319, rfl⟩
instance : TU Tryz.prog 319 (.int .u64) := ⟨Tryz.underlying319⟩
instance : TI Tryz.prog 319 1 8 (.int .u64 0) := .of_map (by kernel_rfl)
instance : TA Tryz.prog 320 false := ⟨_, Tryz.underlying320, rfl⟩
instance : TN Tryz.prog 320 := ⟨_, Tryz.underlying320, rfl⟩
instance : TI Tryz.prog 320 1 8 .nilFunc := .of_map (by kernel_rfl)
instance : TA Tryz.prog 321 false := ⟨_, Tryz.underlying321, rfl⟩
instance : TN Tryz.prog 321 := ⟨_, Tryz.underlying321, rfl⟩
instance : TI Tryz.prog 321 1 8 .nilFunc := .of_map (by kernel_rfl)
instance : TA Tryz.prog 322 false := ⟨_, Tryz.underlying322, rfl⟩
instance : TN Tryz.prog 322 := ⟨_, Tryz.underlying322, rfl⟩
instance : TI Tryz.prog 322 1 8 .nilFunc := .of_map (by kernel_rfl)
instance : TA Tryz.prog 323 true := ⟨_, Tryz.underlying323, rfl⟩
instance : TN Tryz.prog 323 := ⟨_, Tryz.underlying323, rfl⟩
instance : TU Tryz.prog 323 (.array 8 3) := ⟨Tryz.underlying323⟩
instance : TI Tryz.prog 323 8 64 (.agg #[(.int .i64 0), (.int .i64 0), (.int .i64 0), (.int .i64 0), (.int .i64 0), (.int .i64 0), (.int .i64 0), (.int .i64 0)]) := .of_map (by kernel_rfl)
instance : TA Tryz.prog 324 true := ⟨_, Tryz.underlying324, rfl⟩
instance : TN Tryz.prog 324 := ⟨_, Tryz.underlying324, rfl⟩
instance : TU Tryz.prog 324 (.array 8 3) := ⟨Tryz.underlying324⟩
instance : TI Tryz.prog 324 8 64 (.agg #[(.int .i64 0), (.int .i64 0), (.int .i64 0), (.int .i64 0), (.int .i64 0), (.int .i64 0), (.int .i64 0), (.int .i64 0)]) := .of_map (by kernel_rfl)
instance : TA Tryz.prog 325 false := ⟨_, Tryz.underlying325, rfl⟩
instance : TN Tryz.prog 325 := ⟨_, Tryz.underlying325, rfl⟩
instance : TI Tryz.prog 325 1 8 .nilFunc := .of_map (by kernel_rfl)
instance : TA Tryz.prog 326 false := ⟨_, Tryz.underlying326, rfl⟩
instance : TN Tryz.prog 326 := ⟨_, Tryz.underlying326, rfl⟩
instance : TI Tryz.prog 326 1 8 .nilFunc := .of_map (by kernel_rfl)
instance : TA Tryz.prog 327 false := ⟨_, Tryz.underlying327, rfl⟩
instance : TN Tryz.prog 327 := ⟨_, Tryz.underlying327, rfl⟩
instance : TI Tryz.prog 327 1 8 .nilFunc := .of_map (by kernel_rfl)
instance : TA Tryz.prog 328 true := ⟨_, Tryz.underlying328, rfl⟩
instance : TN Tryz.prog 328 := ⟨_, Tryz.underlying328, rfl⟩
instance : TU Tryz.prog 328 (.array 3 327) := ⟨Tryz.underlying328⟩
instance : TI Tryz.prog 328 3 24 (.agg #[.nilFunc, .nilFunc, .nilFunc]) := .of_map (by kernel_rfl)
instance : TA Tryz.prog 329 false := ⟨_, Tryz.underlying329, rfl⟩
instance : TN Tryz.prog 329 := ⟨_, Tryz.underlying329, rfl⟩
instance : TI Tryz.prog 329 1 8 .nilFunc := .of_map (by kernel_rfl)
instance : TA Tryz.prog 330 false := ⟨_, Tryz.underlying330, rfl⟩
instance : TN Tryz.prog 330 := ⟨_, Tryz.underlying330, rfl⟩
instance : TI Tryz.prog 330 1 8 .nilFunc := .of_map (by kernel_rfl)
instance : TA Tryz.prog 331 false := ⟨_, Tryz.underlying331, rfl⟩
instance : TN Tryz.prog 331 := ⟨_, Tryz.underlying331, rfl⟩
instance : TI Tryz.prog 331 1 8 .nilFunc := .of_map (by kernel_rfl)
instance : TA Tryz.prog 332 true := ⟨_, Tryz.underlying332, rfl⟩
instance : TN Tryz.prog 332 := ⟨_, Tryz.underlying332, rfl⟩
instance : TF Tryz.prog 332 0 0 17 := ⟨_, _, Tryz.underlying332, rfl, rfl, rfl⟩
instance : TF Tryz.prog 332 1 1 17 := ⟨_, _, Tryz.underlying332, rfl, rfl, rfl⟩
instance : TF Tryz.prog 332 2 2 17 := ⟨_, _, Tryz.underlying332, rfl, rfl, rfl⟩
instance : TF Tryz.prog 332 3 3 9 := ⟨_, _, Tryz.underlying332, rfl, rfl, rfl⟩
instance : TS Tryz.prog 332 [(0, 1), (1, 1), (2, 1), (3, 1)] := ⟨_, Tryz.underlying332, fun _ _ => by kernel_rfl⟩
instance : TI Tryz.prog 332 4 40 (.agg #[(.pointer none), (.pointer none), (.pointer none), (.string ⟨#[]⟩)]) := .of_map (by kernel_rfl)
instance : TA Tryz.prog 333 true := ⟨_, Tryz.underlying333, rfl⟩
instance : TN Tryz.prog 333 := ⟨_, Tryz.underlying333, rfl⟩
instance : TF Tryz.prog 333 0 0 17 := ⟨_, _, Tryz.underlying333, rfl, rfl, rfl⟩
instance : TF Tryz.prog 333 1 1 17 := ⟨_, _, Tryz.underlying333, rfl, rfl, rfl⟩
instance : TF Tryz.prog 333 2 2 17 := ⟨_, _, Tryz.underlying333, rfl, rfl, rfl⟩
instance : TF Tryz.prog 333 3 3 9 := ⟨_, _, Tryz.underlying333, rfl, rfl, rfl⟩
instance : TS Tryz.prog 333 [(0, 1), (1, 1), (2, 1), (3, 1)] := ⟨_, Tryz.underlying333, fun _ _ => by kernel_rfl⟩
instance : TI Tryz.prog 333 4 40 (.agg #[(.pointer none), (.pointer none), (.pointer none), (.string ⟨#[]⟩)]) := .of_map (by kernel_rfl)
instance : TA Tryz.prog 334 true := ⟨_, Tryz.underlying334, rfl⟩
instance : TN Tryz.prog 334 := ⟨_, Tryz.underlying334, rfl⟩
instance : TU Tryz.prog 334 (.array 0 16) := ⟨Tryz.underlying334⟩
instance : TI Tryz.prog 334 0 0 (.agg #[]) := .of_map (by kernel_rfl)
instance : TA Tryz.prog 335 true := ⟨_, Tryz.underlying335, rfl⟩
instance : TN Tryz.prog 335 := ⟨_, Tryz.underlying335, rfl⟩
instance : TF Tryz.prog 335 0 0 334 := ⟨_, _, Tryz.underlying335, rfl, rfl, rfl⟩
instance : TS Tryz.prog 335 [(0, 0)] := ⟨_, Tryz.underlying335, fun _ _ => by kernel_rfl⟩
instance : TI Tryz.prog 335 0 0 (.agg #[]) := .of_map (by kernel_rfl)
instance : TA Tryz.prog 336 true := ⟨_, Tryz.underlying336, rfl⟩
instance : TN Tryz.prog 336 := ⟨_, Tryz.underlying336, rfl⟩
instance : TF Tryz.prog 336 0 0 334 := ⟨_, _, Tryz.underlying336, rfl, rfl, rfl⟩
instance : TS Tryz.prog 336 [(0, 0)] := ⟨_, Tryz.underlying336, fun _ _ => by kernel_rfl⟩
instance : TI Tryz.prog 336 0 0 (.agg #[]) := .of_map (by kernel_rfl)
instance : TA Tryz.prog 337 false := ⟨_, Tryz.underlying337, rfl⟩
instance : TN Tryz.prog 337 := ⟨_, Tryz.underlying337, rfl⟩
instance : TU Tryz.prog 337 (.int .u8) := ⟨Tryz.underlying337⟩
instance : TI Tryz.prog 337 1 1 (.int .u8 0) := .of_map (by kernel_rfl)
instance : TA Tryz.prog 338 false := ⟨_, Tryz.underlying338, rfl⟩
instance : TN Tryz.prog 338 := ⟨_, Tryz.underlying338, rfl⟩
instance : TU Tryz.prog 338 (.int .u8) := ⟨Tryz.underlying338⟩
instance : TI Tryz.prog 338 1 1 (.int .u8 0) := .of_map (by kernel_rfl)
instance : TA Tryz.prog 339 false := ⟨_, Tryz.underlying339, rfl⟩
instance : TN Tryz.prog 339 := ⟨_, Tryz.underlying339, rfl⟩
instance : TI Tryz.prog 339 1 8 .nilFunc := .of_map (by kernel_rfl)
instance : TA Tryz.prog 340 false := ⟨_, Tryz.underlying340, rfl⟩
instance : TN Tryz.prog 340 := ⟨_, Tryz.underlying340, rfl⟩
instance : TU Tryz.prog 340 (.pointer 5) := ⟨Tryz.underlying340⟩
instance : TI Tryz.prog 340 1 8 (.pointer none) := .of_map (by kernel_rfl)
instance : TA Tryz.prog 341 false := ⟨_, Tryz.underlying341, rfl⟩
instance : TN Tryz.prog 341 := ⟨_, Tryz.underlying341, rfl⟩
instance : TU Tryz.prog 341 (.int .i32) := ⟨Tryz.underlying341⟩
instance : TI Tryz.prog 341 1 4 (.int .i32 0) := .of_map (by kernel_rfl)
instance : TA Tryz.prog 342 false := ⟨_, Tryz.underlying342, rfl⟩
instance : TN Tryz.prog 342 := ⟨_, Tryz.underlying342, rfl⟩
instance : TU Tryz.prog 342 (.int .i32) := ⟨Tryz.underlying342⟩
instance : TI Tryz.prog 342 1 4 (.int .i32 0) := .of_map (by kernel_rfl)
instance : TA Tryz.prog 343 true := ⟨_, Tryz.underlying343, rfl⟩
instance : TN Tryz.prog 343 := ⟨_, Tryz.underlying343, rfl⟩
instance : TF Tryz.prog 343 0 0 12 := ⟨_, _, Tryz.underlying343, rfl, rfl, rfl⟩
instance : TF Tryz.prog 343 1 1 12 := ⟨_, _, Tryz.underlying343, rfl, rfl, rfl⟩
instance : TF Tryz.prog 343 2 2 63 := ⟨_, _, Tryz.underlying343, rfl, rfl, rfl⟩
instance : TF Tryz.prog 343 3 3 337 := ⟨_, _, Tryz.underlying343, rfl, rfl, rfl⟩
instance : TF Tryz.prog 343 4 4 5 := ⟨_, _, Tryz.underlying343, rfl, rfl, rfl⟩
instance : TF Tryz.prog 343 5 5 5 := ⟨_, _, Tryz.underlying343, rfl, rfl, rfl⟩
instance : TF Tryz.prog 343 6 6 338 := ⟨_, _, Tryz.underlying343, rfl, rfl, rfl⟩
instance : TF Tryz.prog 343 7 7 339 := ⟨_, _, Tryz.underlying343, rfl, rfl, rfl⟩
instance : TF Tryz.prog 343 8 8 340 := ⟨_, _, Tryz.underlying343, rfl, rfl, rfl⟩
instance : TF Tryz.prog 343 9 9 341 := ⟨_, _, Tryz.underlying343, rfl, rfl, rfl⟩
instance : TF Tryz.prog 343 10 10 342 := ⟨_, _, Tryz.underlying343, rfl, rfl, rfl⟩
instance : TS Tryz.prog 343 [(0, 1), (1, 1), (2, 1), (3, 1), (4, 1), (5, 1), (6, 1), (7, 1), (8, 1), (9, 1), (10, 1)] := ⟨_, Tryz.underlying343, fun _ _ => by kernel_rfl⟩
instance : TI Tryz.prog 343 11 48 (.agg #[(.int .u64 0), (.int .u64 0), (.int .u32 0), (.int .u8 0), (.int .u8 0), (.int .u8 0), (.int .u8 0), .nilFunc, (.pointer none), (.int .i32 0), (.int .i32 0)]) := .of_map (by kernel_rfl)
instance : TA Tryz.prog 344 true := ⟨_, Tryz.underlying344, rfl⟩
instance : TN Tryz.prog 344 := ⟨_, Tryz.underlying344, rfl⟩
instance : TF Tryz.prog 344 0 0 12 := ⟨_, _, Tryz.underlying344, rfl, rfl, rfl⟩
instance : TF Tryz.prog 344 1 1 12 := ⟨_, _, Tryz.underlying344, rfl, rfl, rfl⟩
instance : TF Tryz.prog 344 2 2 63 := ⟨_, _, Tryz.underlying344, rfl, rfl, rfl⟩
instance : TF Tryz.prog 344 3 3 337 := ⟨_, _, Tryz.underlying344, rfl, rfl, rfl⟩
instance : TF Tryz.prog 344 4 4 5 := ⟨_, _, Tryz.underlying344, rfl, rfl, rfl⟩
instance : TF Tryz.prog 344 5 5 5 := ⟨_, _, Tryz.underlying344, rfl, rfl, rfl⟩
instance : TF Tryz.prog 344 6 6 338 := ⟨_, _, Tryz.underlying344, rfl, rfl, rfl⟩
instance : TF Tryz.prog 344 7 7 339 := ⟨_, _, Tryz.underlying344, rfl, rfl, rfl⟩
instance : TF Tryz.prog 344 8 8 340 := ⟨_, _, Tryz.underlying344, rfl, rfl, rfl⟩
instance : TF Tryz.prog 344 9 9 341 := ⟨_, _, Tryz.underlying344, rfl, rfl, rfl⟩
instance : TF Tryz.prog 344 10 10 342 := ⟨_, _, Tryz.underlying344, rfl, rfl, rfl⟩
instance : TS Tryz.prog 344 [(0, 1), (1, 1), (2, 1), (3, 1), (4, 1), (5, 1), (6, 1), (7, 1), (8, 1), (9, 1), (10, 1)] := ⟨_, Tryz.underlying344, fun _ _ => by kernel_rfl⟩
instance : TI Tryz.prog 344 11 48 (.agg #[(.int .u64 0), (.int .u64 0), (.int .u32 0), (.int .u8 0), (.int .u8 0), (.int .u8 0), (.int .u8 0), .nilFunc, (.pointer none), (.int .i32 0), (.int .i32 0)]) := .of_map (by kernel_rfl)
instance : TA Tryz.prog 345 false := ⟨_, Tryz.underlying345, rfl⟩
instance : TN Tryz.prog 345 := ⟨_, Tryz.underlying345, rfl⟩
instance : TI Tryz.prog 345 1 8 .nilFunc := .of_map (by kernel_rfl)
instance : TA Tryz.prog 346 false := ⟨_, Tryz.underlying346, rfl⟩
instance : TN Tryz.prog 346 := ⟨_, Tryz.underlying346, rfl⟩
instance : TI Tryz.prog 346 1 8 .nilFunc := .of_map (by kernel_rfl)
instance : TA Tryz.prog 347 false := ⟨_, Tryz.underlying347, rfl⟩
instance : TN Tryz.prog 347 := ⟨_, Tryz.underlying347, rfl⟩
instance : TI Tryz.prog 347 1 8 .nilFunc := .of_map (by kernel_rfl)
instance : TA Tryz.prog 348 false := ⟨_, Tryz.underlying348, rfl⟩
instance : TN Tryz.prog 348 := ⟨_, Tryz.underlying348, rfl⟩
instance : TI Tryz.prog 348 1 8 .nilFunc := .of_map (by kernel_rfl)
instance : TA Tryz.prog 349 false := ⟨_, Tryz.underlying349, rfl⟩
instance : TN Tryz.prog 349 := ⟨_, Tryz.underlying349, rfl⟩
instance : TI Tryz.prog 349 1 8 .nilFunc := .of_map (by kernel_rfl)
instance : HasBody Tryz.prog 2 := ⟨Tryz.f2, Tryz.func2, by kernel_rfl, by kernel_rfl⟩
instance : HasBody Tryz.prog 3 := ⟨Tryz.f3, Tryz.func3, by kernel_rfl, by kernel_rfl⟩
instance : HasBody Tryz.prog 4 := ⟨Tryz.f4, Tryz.func4, by kernel_rfl, by kernel_rfl⟩
instance : HasBody Tryz.prog 5 := ⟨Tryz.f5, Tryz.func5, by kernel_rfl, by kernel_rfl⟩
instance : HasBody Tryz.prog 6 := ⟨Tryz.f6, Tryz.func6, by kernel_rfl, by kernel_rfl⟩
instance : HasBody Tryz.prog 7 := ⟨Tryz.f7, Tryz.func7, by kernel_rfl, by kernel_rfl⟩
instance : HasBody Tryz.prog 8 := ⟨Tryz.f8, Tryz.func8, by kernel_rfl, by kernel_rfl⟩
instance : HasBody Tryz.prog 9 := ⟨Tryz.f9, Tryz.func9, by kernel_rfl, by kernel_rfl⟩
instance : HasBody Tryz.prog 10 := ⟨Tryz.f10, Tryz.func10, by kernel_rfl, by kernel_rfl⟩
instance : HasBody Tryz.prog 11 := ⟨Tryz.f11, Tryz.func11, by kernel_rfl, by kernel_rfl⟩
instance : HasBody Tryz.prog 12 := ⟨Tryz.f12, Tryz.func12, by kernel_rfl, by kernel_rfl⟩
instance : HasBody Tryz.prog 13 := ⟨Tryz.f13, Tryz.func13, by kernel_rfl, by kernel_rfl⟩
instance : HasBody Tryz.prog 14 := ⟨Tryz.f14, Tryz.func14, by kernel_rfl, by kernel_rfl⟩
instance : HasBody Tryz.prog 15 := ⟨Tryz.f15, Tryz.func15, by kernel_rfl, by kernel_rfl⟩
instance : HasBody Tryz.prog 16 := ⟨Tryz.f16, Tryz.func16, by kernel_rfl, by kernel_rfl⟩
instance : HasBody Tryz.prog 17 := ⟨Tryz.f17, Tryz.func17, by kernel_rfl, by kernel_rfl⟩
instance : HasBody Tryz.prog 18 := ⟨Tryz.f18, Tryz.func18, by kernel_rfl, by kernel_rfl⟩
instance : HasBody Tryz.prog 19 := ⟨Tryz.f19, Tryz.func19, by kernel_rfl, by kernel_rfl⟩
instance : HasBody Tryz.prog 20 := ⟨Tryz.f20, Tryz.func20, by kernel_rfl, by kernel_rfl⟩
instance : HasBody Tryz.prog 21 := ⟨Tryz.f21, Tryz.func21, by kernel_rfl, by kernel_rfl⟩
instance : HasBody Tryz.prog 22 := ⟨Tryz.f22, Tryz.func22, by kernel_rfl, by kernel_rfl⟩
instance : HasBody Tryz.prog 23 := ⟨Tryz.f23, Tryz.func23, by kernel_rfl, by kernel_rfl⟩
instance : HasBody Tryz.prog 24 := ⟨Tryz.f24, Tryz.func24, by kernel_rfl, by kernel_rfl⟩
instance : HasBody Tryz.prog 25 := ⟨Tryz.f25, Tryz.func25, by kernel_rfl, by kernel_rfl⟩
instance : HasBody Tryz.prog 26 := ⟨Tryz.f26, Tryz.func26, by kernel_rfl, by kernel_rfl⟩
instance : HasBody Tryz.prog 27 := ⟨Tryz.f27, Tryz.func27, by kernel_rfl, by kernel_rfl⟩
instance : HasBody Tryz.prog 28 := ⟨Tryz.f28, Tryz.func28, by kernel_rfl, by kernel_rfl⟩
instance : HasBody Tryz.prog 29 := ⟨Tryz.f29, Tryz.func29, by kernel_rfl, by kernel_rfl⟩
instance : HasBody Tryz.prog 30 := ⟨Tryz.f30, Tryz.func30, by kernel_rfl, by kernel_rfl⟩
instance : HasBody Tryz.prog 31 := ⟨Tryz.f31, Tryz.func31, by kernel_rfl, by kernel_rfl⟩
instance : HasBody Tryz.prog 32 := ⟨Tryz.f32, Tryz.func32, by kernel_rfl, by kernel_rfl⟩
instance : HasBody Tryz.prog 33 := ⟨Tryz.f33, Tryz.func33, by kernel_rfl, by kernel_rfl⟩
instance : HasBody Tryz.prog 34 := ⟨Tryz.f34, Tryz.func34, by kernel_rfl, by kernel_rfl⟩
instance : HasBody Tryz.prog 35 := ⟨Tryz.f35, Tryz.func35, by kernel_rfl, by kernel_rfl⟩
instance : HasBody Tryz.prog 36 := ⟨Tryz.f36, Tryz.func36, by kernel_rfl, by kernel_rfl⟩
instance : HasBody Tryz.prog 37 := ⟨Tryz.f37, Tryz.func37, by kernel_rfl, by kernel_rfl⟩
instance : HasBody Tryz.prog 38 := ⟨Tryz.f38, Tryz.func38, by kernel_rfl, by kernel_rfl⟩
instance : HasBody Tryz.prog 39 := ⟨Tryz.f39, Tryz.func39, by kernel_rfl, by kernel_rfl⟩
instance : HasBody Tryz.prog 40 := ⟨Tryz.f40, Tryz.func40, by kernel_rfl, by kernel_rfl⟩
instance : HasBody Tryz.prog 41 := ⟨Tryz.f41, Tryz.func41, by kernel_rfl, by kernel_rfl⟩
instance : HasBody Tryz.prog 42 := ⟨Tryz.f42, Tryz.func42, by kernel_rfl, by kernel_rfl⟩
instance : HasBody Tryz.prog 43 := ⟨Tryz.f43, Tryz.func43, by kernel_rfl, by kernel_rfl⟩
instance : HasBody Tryz.prog 44 := ⟨Tryz.f44, Tryz.func44, by kernel_rfl, by kernel_rfl⟩
instance : HasBody Tryz.prog 45 := ⟨Tryz.f45, Tryz.func45, by kernel_rfl, by kernel_rfl⟩
instance : HasBody Tryz.prog 46 := ⟨Tryz.f46, Tryz.func46, by kernel_rfl, by kernel_rfl⟩
instance : HasBody Tryz.prog 47 := ⟨Tryz.f47, Tryz.func47, by kernel_rfl, by kernel_rfl⟩
instance : HasBody Tryz.prog 48 := ⟨Tryz.f48, Tryz.func48, by kernel_rfl, by kernel_rfl⟩
instance : HasBody Tryz.prog 49 := ⟨Tryz.f49, Tryz.func49, by kernel_rfl, by kernel_rfl⟩
instance : HasBody Tryz.prog 50 := ⟨Tryz.f50, Tryz.func50, by kernel_rfl, by kernel_rfl⟩
instance : HasBody Tryz.prog 51 := ⟨Tryz.f51, Tryz.func51, by kernel_rfl, by kernel_rfl⟩
instance : HasBody Tryz.prog 52 := ⟨Tryz.f52, Tryz.func52, by kernel_rfl, by kernel_rfl⟩
instance : HasBody Tryz.prog 53 := ⟨Tryz.f53, Tryz.func53, by kernel_rfl, by kernel_rfl⟩
instance : HasBody Tryz.prog 54 := ⟨Tryz.f54, Tryz.func54, by kernel_rfl, by kernel_rfl⟩
instance : HasBody Tryz.prog 55 := ⟨Tryz.f55, Tryz.func55, by kernel_rfl, by kernel_rfl⟩
instance : HasBody Tryz.prog 56 := ⟨Tryz.f56, Tryz.func56, by kernel_rfl, by kernel_rfl⟩
instance : HasBody Tryz.prog 57 := ⟨Tryz.f57, Tryz.func57, by kernel_rfl, by kernel_rfl⟩
instance : HasBody Tryz.prog 58 := ⟨Tryz.f58, Tryz.func58, by kernel_rfl, by kernel_rfl⟩
instance : HasBody Tryz.prog 59 := ⟨Tryz.f59, Tryz.func59, by kernel_rfl, by kernel_rfl⟩
instance : HasBody Tryz.prog 60 := ⟨Tryz.f60, Tryz.func60, by kernel_rfl, by kernel_rfl⟩
instance : HasBody Tryz.prog 61 := ⟨Tryz.f61, Tryz.func61, by kernel_rfl, by kernel_rfl⟩
instance : HasBody Tryz.prog 62 := ⟨Tryz.f62, Tryz.func62, by kernel_rfl, by kernel_rfl⟩
instance : HasBody Tryz.prog 63 := ⟨Tryz.f63, Tryz.func63, by kernel_rfl, by kernel_rfl⟩
instance : HasBody Tryz.prog 64 := ⟨Tryz.f64, Tryz.func64, by kernel_rfl, by kernel_rfl⟩
instance : HasBody Tryz.prog 65 := ⟨Tryz.f65, Tryz.func65, by kernel_rfl, by kernel_rfl⟩
instance : HasBody Tryz.prog 66 := ⟨Tryz.f66, Tryz.func66, by kernel_rfl, by kernel_rfl⟩
instance : HasBody Tryz.prog 67 := ⟨Tryz.f67, Tryz.func67, by kernel_rfl, by kernel_rfl⟩
instance : HasBody Tryz.prog 68 := ⟨Tryz.f68, Tryz.func68, by kernel_rfl, by kernel_rfl⟩
instance : HasBody Tryz.prog 69 := ⟨Tryz.f69, Tryz.func69, by kernel_rfl, by kernel_rfl⟩
instance : HasBody Tryz.prog 70 := ⟨Tryz.f70, Tryz.func70, by kernel_rfl, by kernel_rfl⟩
instance : HasBody Tryz.prog 71 := ⟨Tryz.f71, Tryz.func71, by kernel_rfl, by kernel_rfl⟩
instance : HasBody Tryz.prog 72 := ⟨Tryz.f72, Tryz.func72, by kernel_rfl, by kernel_rfl⟩
instance : HasBody Tryz.prog 73 := ⟨Tryz.f73, Tryz.func73, by kernel_rfl, by kernel_rfl⟩
instance : HasBody Tryz.prog 74 := ⟨Tryz.f74, Tryz.func74, by kernel_rfl, by kernel_rfl⟩
instance : HasBody Tryz.prog 75 := ⟨Tryz.f75, Tryz.func75, by kernel_rfl, by kernel_rfl⟩
instance : HasBody Tryz.prog 76 := ⟨Tryz.f76, Tryz.func76, by kernel_rfl, by kernel_rfl⟩
instance : HasBody Tryz.prog 77 := ⟨Tryz.f77, Tryz.func77, by kernel_rfl, by kernel_rfl⟩
instance : HasBody Tryz.prog 78 := ⟨Tryz.f78, Tryz.func78, by kernel_rfl, by kernel_rfl⟩
instance : HasBody Tryz.prog 79 := ⟨Tryz.f79, Tryz.func79, by kernel_rfl, by kernel_rfl⟩
instance : HasBody Tryz.prog 80 := ⟨Tryz.f80, Tryz.func80, by kernel_rfl, by kernel_rfl⟩
instance : HasBody Tryz.prog 81 := ⟨Tryz.f81, Tryz.func81, by kernel_rfl, by kernel_rfl⟩
instance : HasBody Tryz.prog 82 := ⟨Tryz.f82, Tryz.func82, by kernel_rfl, by kernel_rfl⟩
instance : HasBody Tryz.prog 83 := ⟨Tryz.f83, Tryz.func83, by kernel_rfl, by kernel_rfl⟩
instance : HasBody Tryz.prog 84 := ⟨Tryz.f84, Tryz.func84, by kernel_rfl, by kernel_rfl⟩
instance : HasBody Tryz.prog 85 := ⟨Tryz.f85, Tryz.func85, by kernel_rfl, by kernel_rfl⟩
instance : HasBody Tryz.prog 86 := ⟨Tryz.f86, Tryz.func86, by kernel_rfl, by kernel_rfl⟩
instance : HasBody Tryz.prog 87 := ⟨Tryz.f87, Tryz.func87, by kernel_rfl, by kernel_rfl⟩
instance : HasBody Tryz.prog 88 := ⟨Tryz.f88, Tryz.func88, by kernel_rfl, by kernel_rfl⟩
instance : HasBody Tryz.prog 89 := ⟨Tryz.f89, Tryz.func89, by kernel_rfl, by kernel_rfl⟩
instance : HasBody Tryz.prog 90 := ⟨Tryz.f90, Tryz.func90, by kernel_rfl, by kernel_rfl⟩
instance : HasBody Tryz.prog 91 := ⟨Tryz.f91, Tryz.func91, by kernel_rfl, by kernel_rfl⟩
instance : HasBody Tryz.prog 92 := ⟨Tryz.f92, Tryz.func92, by kernel_rfl, by kernel_rfl⟩
instance : HasBody Tryz.prog 93 := ⟨Tryz.f93, Tryz.func93, by kernel_rfl, by kernel_rfl⟩
instance : HasBody Tryz.prog 94 := ⟨Tryz.f94, Tryz.func94, by kernel_rfl, by kernel_rfl⟩
instance : HasBody Tryz.prog 95 := ⟨Tryz.f95, Tryz.func95, by kernel_rfl, by kernel_rfl⟩
instance : HasBody Tryz.prog 96 := ⟨Tryz.f96, Tryz.func96, by kernel_rfl, by kernel_rfl⟩
instance : HasBody Tryz.prog 97 := ⟨Tryz.f97, Tryz.func97, by kernel_rfl, by kernel_rfl⟩
instance : HasBody Tryz.prog 98 := ⟨Tryz.f98, Tryz.func98, by kernel_rfl, by kernel_rfl⟩
instance : HasBody Tryz.prog 99 := ⟨Tryz.f99, Tryz.func99, by kernel_rfl, by kernel_rfl⟩
instance : HasBody Tryz.prog 100 := ⟨Tryz.f100, Tryz.func100, by kernel_rfl, by kernel_rfl⟩
instance : HasBody Tryz.prog 101 := ⟨Tryz.f101, Tryz.func101, by kernel_rfl, by kernel_rfl⟩
instance : HasBody Tryz.prog 102 := ⟨Tryz.f102, Tryz.func102, by kernel_rfl, by kernel_rfl⟩
instance : HasBody Tryz.prog 103 := ⟨Tryz.f103, Tryz.func103, by kernel_rfl, by kernel_rfl⟩
instance : HasBody Tryz.prog 104 := ⟨Tryz.f104, Tryz.func104, by kernel_rfl, by kernel_rfl⟩
instance : HasBody Tryz.prog 105 := ⟨Tryz.f105, Tryz.func105, by kernel_rfl, by kernel_rfl⟩
instance : HasBody Tryz.prog 106 := ⟨Tryz.f106, Tryz.func106, by kernel_rfl, by kernel_rfl⟩
instance : HasBody Tryz.prog 107 := ⟨Tryz.f107, Tryz.func107, by kernel_rfl, by kernel_rfl⟩
instance : HasBody Tryz.prog 108 := ⟨Tryz.f108, Tryz.func108, by kernel_rfl, by kernel_rfl⟩
instance : HasBody Tryz.prog 109 := ⟨Tryz.f109, Tryz.func109, by kernel_rfl, by kernel_rfl⟩
instance : HasBody Tryz.prog 110 := ⟨Tryz.f110, Tryz.func110, by kernel_rfl, by kernel_rfl⟩
instance : HasBody Tryz.prog 111 := ⟨Tryz.f111, Tryz.func111, by kernel_rfl, by kernel_rfl⟩
instance : HasBody Tryz.prog 112 := ⟨Tryz.f112, Tryz.func112, by kernel_rfl, by kernel_rfl⟩
instance : HasBody Tryz.prog 113 := ⟨Tryz.f113, Tryz.func113, by kernel_rfl, by kernel_rfl⟩
instance : HasBody Tryz.prog 114 := ⟨Tryz.f114, Tryz.func114, by kernel_rfl, by kernel_rfl⟩
instance : HasBody Tryz.prog 115 := ⟨Tryz.f115, Tryz.func115, by kernel_rfl, by kernel_rfl⟩
instance : HasBody Tryz.prog 116 := ⟨Tryz.f116, Tryz.func116, by kernel_rfl, by kernel_rfl⟩
instance : HasBody Tryz.prog 117 := ⟨Tryz.f117, Tryz.func117, by kernel_rfl, by kernel_rfl⟩
instance : HasBody Tryz.prog 118 := ⟨Tryz.f118, Tryz.func118, by kernel_rfl, by kernel_rfl⟩
instance : HasBody Tryz.prog 119 := ⟨Tryz.f119, Tryz.func119, by kernel_rfl, by kernel_rfl⟩
instance : HasBody Tryz.prog 120 := ⟨Tryz.f120, Tryz.func120, by kernel_rfl, by kernel_rfl⟩
instance : HasBody Tryz.prog 121 := ⟨Tryz.f121, Tryz.func121, by kernel_rfl, by kernel_rfl⟩
instance : HasBody Tryz.prog 122 := ⟨Tryz.f122, Tryz.func122, by kernel_rfl, by kernel_rfl⟩
instance : HasBody Tryz.prog 123 := ⟨Tryz.f123, Tryz.func123, by kernel_rfl, by kernel_rfl⟩
instance : HasBody Tryz.prog 124 := ⟨Tryz.f124, Tryz.func124, by kernel_rfl, by kernel_rfl⟩
instance : HasBody Tryz.prog 125 := ⟨Tryz.f125, Tryz.func125, by kernel_rfl, by kernel_rfl⟩
instance : HasBody Tryz.prog 126 := ⟨Tryz.f126, Tryz.func126, by kernel_rfl, by kernel_rfl⟩
instance : HasBody Tryz.prog 127 := ⟨Tryz.f127, Tryz.func127, by kernel_rfl, by kernel_rfl⟩
instance : HasBody Tryz.prog 128 := ⟨Tryz.f128, Tryz.func128, by kernel_rfl, by kernel_rfl⟩
instance : HasBody Tryz.prog 129 := ⟨Tryz.f129, Tryz.func129, by kernel_rfl, by kernel_rfl⟩
instance : HasBody Tryz.prog 130 := ⟨Tryz.f130, Tryz.func130, by kernel_rfl, by kernel_rfl⟩
instance : HasBody Tryz.prog 131 := ⟨Tryz.f131, Tryz.func131, by kernel_rfl, by kernel_rfl⟩
instance : HasBody Tryz.prog 132 := ⟨Tryz.f132, Tryz.func132, by kernel_rfl, by kernel_rfl⟩
instance : HasBody Tryz.prog 133 := ⟨Tryz.f133, Tryz.func133, by kernel_rfl, by kernel_rfl⟩
instance : HasBody Tryz.prog 134 := ⟨Tryz.f134, Tryz.func134, by kernel_rfl, by kernel_rfl⟩
instance : HasBody Tryz.prog 135 := ⟨Tryz.f135, Tryz.func135, by kernel_rfl, by kernel_rfl⟩
instance : HasBody Tryz.prog 136 := ⟨Tryz.f136, Tryz.func136, by kernel_rfl, by kernel_rfl⟩
instance : HasBody Tryz.prog 137 := ⟨Tryz.f137, Tryz.func137, by kernel_rfl, by kernel_rfl⟩
instance : HasBody Tryz.prog 138 := ⟨Tryz.f138, Tryz.func138, by kernel_rfl, by kernel_rfl⟩
instance : HasBody Tryz.prog 139 := ⟨Tryz.f139, Tryz.func139, by kernel_rfl, by kernel_rfl⟩
instance : HasBody Tryz.prog 140 := ⟨Tryz.f140, Tryz.func140, by kernel_rfl, by kernel_rfl⟩
instance : HasBody Tryz.prog 141 := ⟨Tryz.f141, Tryz.func141, by kernel_rfl, by kernel_rfl⟩
instance : HasBody Tryz.prog 142 := ⟨Tryz.f142, Tryz.func142, by kernel_rfl, by kernel_rfl⟩
instance : HasBody Tryz.prog 143 := ⟨Tryz.f143, Tryz.func143, by kernel_rfl, by kernel_rfl⟩
instance : HasBody Tryz.prog 144 := ⟨Tryz.f144, Tryz.func144, by kernel_rfl, by kernel_rfl⟩
instance : HasBody Tryz.prog 145 := ⟨Tryz.f145, Tryz.func145, by kernel_rfl, by kernel_rfl⟩
instance : HasBody Tryz.prog 146 := ⟨Tryz.f146, Tryz.func146, by kernel_rfl, by kernel_rfl⟩
instance : HasBody Tryz.prog 147 := ⟨Tryz.f147, Tryz.func147, by kernel_rfl, by kernel_rfl⟩
instance : HasBody Tryz.prog 148 := ⟨Tryz.f148, Tryz.func148, by kernel_rfl, by kernel_rfl⟩
instance : HasBody Tryz.prog 149 := ⟨Tryz.f149, Tryz.func149, by kernel_rfl, by kernel_rfl⟩
instance : HasBody Tryz.prog 150 := ⟨Tryz.f150, Tryz.func150, by kernel_rfl, by kernel_rfl⟩
instance : HasBody Tryz.prog 151 := ⟨Tryz.f151, Tryz.func151, by kernel_rfl, by kernel_rfl⟩
instance : HasBody Tryz.prog 152 := ⟨Tryz.f152, Tryz.func152, by kernel_rfl, by kernel_rfl⟩
instance : HasBody Tryz.prog 153 := ⟨Tryz.f153, Tryz.func153, by kernel_rfl, by kernel_rfl⟩
instance : HasBody Tryz.prog 154 := ⟨Tryz.f154, Tryz.func154, by kernel_rfl, by kernel_rfl⟩
instance : HasBody Tryz.prog 155 := ⟨Tryz.f155, Tryz.func155, by kernel_rfl, by kernel_rfl⟩
instance : HasBody Tryz.prog 156 := ⟨Tryz.f156, Tryz.func156, by kernel_rfl, by kernel_rfl⟩
instance : HasBody Tryz.prog 157 := ⟨Tryz.f157, Tryz.func157, by kernel_rfl, by kernel_rfl⟩
instance : HasBody Tryz.prog 158 := ⟨Tryz.f158, Tryz.func158, by kernel_rfl, by kernel_rfl⟩
instance : HasBody Tryz.prog 159 := ⟨Tryz.f159, Tryz.func159, by kernel_rfl, by kernel_rfl⟩
instance : HasBody Tryz.prog 160 := ⟨Tryz.f160, Tryz.func160, by kernel_rfl, by kernel_rfl⟩
instance : HasBody Tryz.prog 161 := ⟨Tryz.f161, Tryz.func161, by kernel_rfl, by kernel_rfl⟩
instance : HasBody Tryz.prog 162 := ⟨Tryz.f162, Tryz.func162, by kernel_rfl, by kernel_rfl⟩
instance : HasBody Tryz.prog 163 := ⟨Tryz.f163, Tryz.func163, by kernel_rfl, by kernel_rfl⟩
instance : HasBody Tryz.prog 164 := ⟨Tryz.f164, Tryz.func164, by kernel_rfl, by kernel_rfl⟩
instance : HasBody Tryz.prog 165 := ⟨Tryz.f165, Tryz.func165, by kernel_rfl, by kernel_rfl⟩
instance : HasBody Tryz.prog 166 := ⟨Tryz.f166, Tryz.func166, by kernel_rfl, by kernel_rfl⟩
instance : HasBody Tryz.prog 167 := ⟨Tryz.f167, Tryz.func167, by kernel_rfl, by kernel_rfl⟩
instance : HasBody Tryz.prog 168 := ⟨Tryz.f168, Tryz.func168, by kernel_rfl, by kernel_rfl⟩
instance : HasBody Tryz.prog 169 := ⟨Tryz.f169, Tryz.func169, by kernel_rfl, by kernel_rfl⟩
instance : HasBody Tryz.prog 170 := ⟨Tryz.f170, Tryz.func170, by kernel_rfl, by kernel_rfl⟩
instance : HasBody Tryz.prog 171 := ⟨Tryz.f171, Tryz.func171, by kernel_rfl, by kernel_rfl⟩
instance : HasBody Tryz.prog 172 := ⟨Tryz.f172, Tryz.func172, by kernel_rfl, by kernel_rfl⟩
instance : HasBody Tryz.prog 173 := ⟨Tryz.f173, Tryz.func173, by kernel_rfl, by kernel_rfl⟩
instance : HasBody Tryz.prog 180 := ⟨Tryz.f180, Tryz.func180, by kernel_rfl, by kernel_rfl⟩
instance : HasBody Tryz.prog 181 := ⟨Tryz.f181, Tryz.func181, by kernel_rfl, by kernel_rfl⟩
instance : HasBody Tryz.prog 183 := ⟨Tryz.f183, Tryz.func183, by kernel_rfl, by kernel_rfl⟩
instance : HasBody Tryz.prog 184 := ⟨Tryz.f184, Tryz.func184, by kernel_rfl, by kernel_rfl⟩
instance : HasBody Tryz.prog 187 := ⟨Tryz.f187, Tryz.func187, by kernel_rfl, by kernel_rfl⟩
instance : HasBody Tryz.prog 188 := ⟨Tryz.f188, Tryz.func188, by kernel_rfl, by kernel_rfl⟩
instance : HasBody Tryz.prog 191 := ⟨Tryz.f191, Tryz.func191, by kernel_rfl, by kernel_rfl⟩
instance : HasBody Tryz.prog 194 := ⟨Tryz.f194, Tryz.func194, by kernel_rfl, by kernel_rfl⟩
instance : HasBody Tryz.prog 195 := ⟨Tryz.f195, Tryz.func195, by kernel_rfl, by kernel_rfl⟩
instance : HasBody Tryz.prog 196 := ⟨Tryz.f196, Tryz.func196, by kernel_rfl, by kernel_rfl⟩
instance : HasBody Tryz.prog 197 := ⟨Tryz.f197, Tryz.func197, by kernel_rfl, by kernel_rfl⟩
instance : HasBody Tryz.prog 198 := ⟨Tryz.f198, Tryz.func198, by kernel_rfl, by kernel_rfl⟩
instance : HasBody Tryz.prog 199 := ⟨Tryz.f199, Tryz.func199, by kernel_rfl, by kernel_rfl⟩
instance : HasBody Tryz.prog 200 := ⟨Tryz.f200, Tryz.func200, by kernel_rfl, by kernel_rfl⟩
instance : HasBody Tryz.prog 201 := ⟨Tryz.f201, Tryz.func201, by kernel_rfl, by kernel_rfl⟩
instance : HasBody Tryz.prog 202 := ⟨Tryz.f202, Tryz.func202, by kernel_rfl, by kernel_rfl⟩
instance : HasBody Tryz.prog 203 := ⟨Tryz.f203, Tryz.func203, by kernel_rfl, by kernel_rfl⟩
instance : HasBody Tryz.prog 204 := ⟨Tryz.f204, Tryz.func204, by kernel_rfl, by kernel_rfl⟩
instance : HasBody Tryz.prog 205 := ⟨Tryz.f205, Tryz.func205, by kernel_rfl, by kernel_rfl⟩
instance : HasBody Tryz.prog 206 := ⟨Tryz.f206, Tryz.func206, by kernel_rfl, by kernel_rfl⟩
instance : HasBody Tryz.prog 207 := ⟨Tryz.f207, Tryz.func207, by kernel_rfl, by kernel_rfl⟩
instance : HasBody Tryz.prog 208 := ⟨Tryz.f208, Tryz.func208, by kernel_rfl, by kernel_rfl⟩
instance : HasBody Tryz.prog 209 := ⟨Tryz.f209, Tryz.func209, by kernel_rfl, by kernel_rfl⟩
instance : HasBody Tryz.prog 210 := ⟨Tryz.f210, Tryz.func210, by kernel_rfl, by kernel_rfl⟩
instance : HasBody Tryz.prog 211 := ⟨Tryz.f211, Tryz.func211, by kernel_rfl, by kernel_rfl⟩
instance : HasBody Tryz.prog 212 := ⟨Tryz.f212, Tryz.func212, by kernel_rfl, by kernel_rfl⟩
instance : HasBody Tryz.prog 213 := ⟨Tryz.f213, Tryz.func213, by kernel_rfl, by kernel_rfl⟩
instance : HasBody Tryz.prog 214 := ⟨Tryz.f214, Tryz.func214, by kernel_rfl, by kernel_rfl⟩
instance : HasBody Tryz.prog 215 := ⟨Tryz.f215, Tryz.func215, by kernel_rfl, by kernel_rfl⟩
instance : HasBody Tryz.prog 216 := ⟨Tryz.f216, Tryz.func216, by kernel_rfl, by kernel_rfl⟩
instance : HasBody Tryz.prog 217 := ⟨Tryz.f217, Tryz.func217, by kernel_rfl, by kernel_rfl⟩
instance : HasBody Tryz.prog 218 := ⟨Tryz.f218, Tryz.func218, by kernel_rfl, by kernel_rfl⟩
instance : HasBody Tryz.prog 219 := ⟨Tryz.f219, Tryz.func219, by kernel_rfl, by kernel_rfl⟩
instance : HasBody Tryz.prog 220 := ⟨Tryz.f220, Tryz.func220, by kernel_rfl, by kernel_rfl⟩
instance : HasBody Tryz.prog 221 := ⟨Tryz.f221, Tryz.func221, by kernel_rfl, by kernel_rfl⟩
instance : HasBody Tryz.prog 222 := ⟨Tryz.f222, Tryz.func222, by kernel_rfl, by kernel_rfl⟩
instance : HasBody Tryz.prog 223 := ⟨Tryz.f223, Tryz.func223, by kernel_rfl, by kernel_rfl⟩
instance : HasBody Tryz.prog 224 := ⟨Tryz.f224, Tryz.func224, by kernel_rfl, by kernel_rfl⟩
instance : HasBody Tryz.prog 225 := ⟨Tryz.f225, Tryz.func225, by kernel_rfl, by kernel_rfl⟩
instance : HasBody Tryz.prog 226 := ⟨Tryz.f226, Tryz.func226, by kernel_rfl, by kernel_rfl⟩
instance : HasBody Tryz.prog 231 := ⟨Tryz.f231, Tryz.func231, by kernel_rfl, by kernel_rfl⟩
instance : HasBody Tryz.prog 232 := ⟨Tryz.f232, Tryz.func232, by kernel_rfl, by kernel_rfl⟩
instance : HasBody Tryz.prog 233 := ⟨Tryz.f233, Tryz.func233, by kernel_rfl, by kernel_rfl⟩
instance : HasBody Tryz.prog 234 := ⟨Tryz.f234, Tryz.func234, by kernel_rfl, by kernel_rfl⟩
instance : HasBody Tryz.prog 236 := ⟨Tryz.f236, Tryz.func236, by kernel_rfl, by kernel_rfl⟩
instance : HasBody Tryz.prog 237 := ⟨Tryz.f237, Tryz.func237, by kernel_rfl, by kernel_rfl⟩
instance : HasBody Tryz.prog 238 := ⟨Tryz.f238, Tryz.func238, by kernel_rfl, by kernel_rfl⟩
instance : HasBody Tryz.prog 239 := ⟨Tryz.f239, Tryz.func239, by kernel_rfl, by kernel_rfl⟩
instance : HasBody Tryz.prog 240 := ⟨Tryz.f240, Tryz.func240, by kernel_rfl, by kernel_rfl⟩
instance : HasBody Tryz.prog 241 := ⟨Tryz.f241, Tryz.func241, by kernel_rfl, by kernel_rfl⟩
instance : HasBody Tryz.prog 242 := ⟨Tryz.f242, Tryz.func242, by kernel_rfl, by kernel_rfl⟩
instance : HasBody Tryz.prog 243 := ⟨Tryz.f243, Tryz.func243, by kernel_rfl, by kernel_rfl⟩
instance : HasBody Tryz.prog 244 := ⟨Tryz.f244, Tryz.func244, by kernel_rfl, by kernel_rfl⟩
instance : HasBody Tryz.prog 245 := ⟨Tryz.f245, Tryz.func245, by kernel_rfl, by kernel_rfl⟩
instance : HasBody Tryz.prog 246 := ⟨Tryz.f246, Tryz.func246, by kernel_rfl, by kernel_rfl⟩
instance : HasBody Tryz.prog 247 := ⟨Tryz.f247, Tryz.func247, by kernel_rfl, by kernel_rfl⟩
instance : HasBody Tryz.prog 248 := ⟨Tryz.f248, Tryz.func248, by kernel_rfl, by kernel_rfl⟩
instance : HasBody Tryz.prog 249 := ⟨Tryz.f249, Tryz.func249, by kernel_rfl, by kernel_rfl⟩
instance : HasBody Tryz.prog 250 := ⟨Tryz.f250, Tryz.func250, by kernel_rfl, by kernel_rfl⟩
instance : HasBody Tryz.prog 251 := ⟨Tryz.f251, Tryz.func251, by kernel_rfl, by kernel_rfl⟩
instance : HasBody Tryz.prog 252 := ⟨Tryz.f252, Tryz.func252, by kernel_rfl, by kernel_rfl⟩
instance : HasBody Tryz.prog 253 := ⟨Tryz.f253, Tryz.func253, by kernel_rfl, by kernel_rfl⟩
instance : HasBody Tryz.prog 254 := ⟨Tryz.f254, Tryz.func254, by kernel_rfl, by kernel_rfl⟩
instance : HasBody Tryz.prog 255 := ⟨Tryz.f255, Tryz.func255, by kernel_rfl, by kernel_rfl⟩
instance : HasBody Tryz.prog 256 := ⟨Tryz.f256, Tryz.func256, by kernel_rfl, by kernel_rfl⟩
instance : HasBody Tryz.prog 257 := ⟨Tryz.f257, Tryz.func257, by kernel_rfl, by kernel_rfl⟩
instance : HasBody Tryz.prog 258 := ⟨Tryz.f258, Tryz.func258, by kernel_rfl, by kernel_rfl⟩
instance : HasBody Tryz.prog 259 := ⟨Tryz.f259, Tryz.func259, by kernel_rfl, by kernel_rfl⟩
instance : HasBody Tryz.prog 260 := ⟨Tryz.f260, Tryz.func260, by kernel_rfl, by kernel_rfl⟩
instance : HasBody Tryz.prog 261 := ⟨Tryz.f261, Tryz.func261, by kernel_rfl, by kernel_rfl⟩
instance : HasBody Tryz.prog 262 := ⟨Tryz.f262, Tryz.func262, by kernel_rfl, by kernel_rfl⟩
instance : HasBody Tryz.prog 263 := ⟨Tryz.f263, Tryz.func263, by kernel_rfl, by kernel_rfl⟩
instance : HasBody Tryz.prog 264 := ⟨Tryz.f264, Tryz.func264, by kernel_rfl, by kernel_rfl⟩
instance : HasBody Tryz.prog 265 := ⟨Tryz.f265, Tryz.func265, by kernel_rfl, by kernel_rfl⟩
instance : HasBody Tryz.prog 266 := ⟨Tryz.f266, Tryz.func266, by kernel_rfl, by kernel_rfl⟩
instance : HasBody Tryz.prog 267 := ⟨Tryz.f267, Tryz.func267, by kernel_rfl, by kernel_rfl⟩
instance : HasBody Tryz.prog 268 := ⟨Tryz.f268, Tryz.func268, by kernel_rfl, by kernel_rfl⟩
instance : HasBody Tryz.prog 269 := ⟨Tryz.f269, Tryz.func269, by kernel_rfl, by kernel_rfl⟩
instance : HasBody Tryz.prog 270 := ⟨Tryz.f270, Tryz.func270, by kernel_rfl, by kernel_rfl⟩
instance : HasBody Tryz.prog 271 := ⟨Tryz.f271, Tryz.func271, by kernel_rfl, by kernel_rfl⟩
instance : HasBody Tryz.prog 272 := ⟨Tryz.f272, Tryz.func272, by kernel_rfl, by kernel_rfl⟩
instance : HasBody Tryz.prog 273 := ⟨Tryz.f273, Tryz.func273, by kernel_rfl, by kernel_rfl⟩
instance : HasBody Tryz.prog 274 := ⟨Tryz.f274, Tryz.func274, by kernel_rfl, by kernel_rfl⟩
instance : HasBody Tryz.prog 275 := ⟨Tryz.f275, Tryz.func275, by kernel_rfl, by kernel_rfl⟩
instance : HasBody Tryz.prog 276 := ⟨Tryz.f276, Tryz.func276, by kernel_rfl, by kernel_rfl⟩
instance : HasBody Tryz.prog 277 := ⟨Tryz.f277, Tryz.func277, by kernel_rfl, by kernel_rfl⟩
instance : HasBody Tryz.prog 278 := ⟨Tryz.f278, Tryz.func278, by kernel_rfl, by kernel_rfl⟩
instance : HasBody Tryz.prog 279 := ⟨Tryz.f279, Tryz.func279, by kernel_rfl, by kernel_rfl⟩
instance : HasBody Tryz.prog 280 := ⟨Tryz.f280, Tryz.func280, by kernel_rfl, by kernel_rfl⟩
instance : HasBody Tryz.prog 281 := ⟨Tryz.f281, Tryz.func281, by kernel_rfl, by kernel_rfl⟩
instance : HasBody Tryz.prog 282 := ⟨Tryz.f282, Tryz.func282, by kernel_rfl, by kernel_rfl⟩
instance : HasBody Tryz.prog 283 := ⟨Tryz.f283, Tryz.func283, by kernel_rfl, by kernel_rfl⟩
instance : HasBody Tryz.prog 284 := ⟨Tryz.f284, Tryz.func284, by kernel_rfl, by kernel_rfl⟩
instance : HasBody Tryz.prog 285 := ⟨Tryz.f285, Tryz.func285, by kernel_rfl, by kernel_rfl⟩
instance : HasBody Tryz.prog 286 := ⟨Tryz.f286, Tryz.func286, by kernel_rfl, by kernel_rfl⟩
instance : HasBody Tryz.prog 287 := ⟨Tryz.f287, Tryz.func287, by kernel_rfl, by kernel_rfl⟩
instance : HasBody Tryz.prog 288 := ⟨Tryz.f288, Tryz.func288, by kernel_rfl, by kernel_rfl⟩
instance : HasBody Tryz.prog 289 := ⟨Tryz.f289, Tryz.func289, by kernel_rfl, by kernel_rfl⟩
instance : HasBody Tryz.prog 290 := ⟨Tryz.f290, Tryz.func290, by kernel_rfl, by kernel_rfl⟩
instance : HasBody Tryz.prog 291 := ⟨Tryz.f291, Tryz.func291, by kernel_rfl, by kernel_rfl⟩
instance : HasBody Tryz.prog 293 := ⟨Tryz.f293, Tryz.func293, by kernel_rfl, by kernel_rfl⟩
instance : HasBody Tryz.prog 295 := ⟨Tryz.f295, Tryz.func295, by kernel_rfl, by kernel_rfl⟩
instance : HasBody Tryz.prog 296 := ⟨Tryz.f296, Tryz.func296, by kernel_rfl, by kernel_rfl⟩
instance : HasBody Tryz.prog 297 := ⟨Tryz.f297, Tryz.func297, by kernel_rfl, by kernel_rfl⟩
instance : HasBody Tryz.prog 298 := ⟨Tryz.f298, Tryz.func298, by kernel_rfl, by kernel_rfl⟩
instance : HasBody Tryz.prog 299 := ⟨Tryz.f299, Tryz.func299, by kernel_rfl, by kernel_rfl⟩
instance : HasBody Tryz.prog 300 := ⟨Tryz.f300, Tryz.func300, by kernel_rfl, by kernel_rfl⟩
instance : HasBody Tryz.prog 301 := ⟨Tryz.f301, Tryz.func301, by kernel_rfl, by kernel_rfl⟩
instance : HasBody Tryz.prog 302 := ⟨Tryz.f302, Tryz.func302, by kernel_rfl, by kernel_rfl⟩
instance : HasBody Tryz.prog 303 := ⟨Tryz.f303, Tryz.func303, by kernel_rfl, by kernel_rfl⟩
instance : HasBody Tryz.prog 304 := ⟨Tryz.f304, Tryz.func304, by kernel_rfl, by kernel_rfl⟩
instance : HasBody Tryz.prog 305 := ⟨Tryz.f305, Tryz.func305, by kernel_rfl, by kernel_rfl⟩
instance : HasBody Tryz.prog 306 := ⟨Tryz.f306, Tryz.func306, by kernel_rfl, by kernel_rfl⟩
instance : HasBody Tryz.prog 307 := ⟨Tryz.f307, Tryz.func307, by kernel_rfl, by kernel_rfl⟩
instance : HasBody Tryz.prog 308 := ⟨Tryz.f308, Tryz.func308, by kernel_rfl, by kernel_rfl⟩
instance : HasBody Tryz.prog 309 := ⟨Tryz.f309, Tryz.func309, by kernel_rfl, by kernel_rfl⟩
instance : HasBody Tryz.prog 310 := ⟨Tryz.f310, Tryz.func310, by kernel_rfl, by kernel_rfl⟩
instance : HasBody Tryz.prog 311 := ⟨Tryz.f311, Tryz.func311, by kernel_rfl, by kernel_rfl⟩
instance : HasBody Tryz.prog 312 := ⟨Tryz.f312, Tryz.func312, by kernel_rfl, by kernel_rfl⟩
instance : HasBody Tryz.prog 313 := ⟨Tryz.f313, Tryz.func313, by kernel_rfl, by kernel_rfl⟩
instance : HasBody Tryz.prog 321 := ⟨Tryz.f321, Tryz.func321, by kernel_rfl, by kernel_rfl⟩
instance : HasBody Tryz.prog 322 := ⟨Tryz.f322, Tryz.func322, by kernel_rfl, by kernel_rfl⟩
instance : HasBody Tryz.prog 323 := ⟨Tryz.f323, Tryz.func323, by kernel_rfl, by kernel_rfl⟩
instance : HasBody Tryz.prog 324 := ⟨Tryz.f324, Tryz.func324, by kernel_rfl, by kernel_rfl⟩
instance : HasBody Tryz.prog 325 := ⟨Tryz.f325, Tryz.func325, by kernel_rfl, by kernel_rfl⟩
instance : HasBody Tryz.prog 326 := ⟨Tryz.f326, Tryz.func326, by kernel_rfl, by kernel_rfl⟩
instance : HasBody Tryz.prog 327 := ⟨Tryz.f327, Tryz.func327, by kernel_rfl, by kernel_rfl⟩
instance : HasBody Tryz.prog 328 := ⟨Tryz.f328, Tryz.func328, by kernel_rfl, by kernel_rfl⟩
instance : HasBody Tryz.prog 329 := ⟨Tryz.f329, Tryz.func329, by kernel_rfl, by kernel_rfl⟩
instance : HasBody Tryz.prog 330 := ⟨Tryz.f330, Tryz.func330, by kernel_rfl, by kernel_rfl⟩
instance : HasBody Tryz.prog 331 := ⟨Tryz.f331, Tryz.func331, by kernel_rfl, by kernel_rfl⟩
instance : HasBody Tryz.prog 332 := ⟨Tryz.f332, Tryz.func332, by kernel_rfl, by kernel_rfl⟩
instance : HasBody Tryz.prog 333 := ⟨Tryz.f333, Tryz.func333, by kernel_rfl, by kernel_rfl⟩
instance : HasBody Tryz.prog 334 := ⟨Tryz.f334, Tryz.func334, by kernel_rfl, by kernel_rfl⟩
instance : HasBody Tryz.prog 335 := ⟨Tryz.f335, Tryz.func335, by kernel_rfl, by kernel_rfl⟩
instance : HasBody Tryz.prog 336 := ⟨Tryz.f336, Tryz.func336, by kernel_rfl, by kernel_rfl⟩
instance : HasBody Tryz.prog 337 := ⟨Tryz.f337, Tryz.func337, by kernel_rfl, by kernel_rfl⟩
instance : HasBody Tryz.prog 338 := ⟨Tryz.f338, Tryz.func338, by kernel_rfl, by kernel_rfl⟩
instance : HasBody Tryz.prog 339 := ⟨Tryz.f339, Tryz.func339, by kernel_rfl, by kernel_rfl⟩
instance : HasBody Tryz.prog 340 := ⟨Tryz.f340, Tryz.func340, by kernel_rfl, by kernel_rfl⟩
instance : HasBody Tryz.prog 341 := ⟨Tryz.f341, Tryz.func341, by kernel_rfl, by kernel_rfl⟩
instance : HasBody Tryz.prog 342 := ⟨Tryz.f342, Tryz.func342, by kernel_rfl, by kernel_rfl⟩
instance : HasBody Tryz.prog 343 := ⟨Tryz.f343, Tryz.func343, by kernel_rfl, by kernel_rfl⟩
instance : HasBody Tryz.prog 361 := ⟨Tryz.f361, Tryz.func361, by kernel_rfl, by kernel_rfl⟩
instance : HasBody Tryz.prog 362 := ⟨Tryz.f362, Tryz.func362, by kernel_rfl, by kernel_rfl⟩
instance : HasBody Tryz.prog 363 := ⟨Tryz.f363, Tryz.func363, by kernel_rfl, by kernel_rfl⟩
instance : HasBody Tryz.prog 364 := ⟨Tryz.f364, Tryz.func364, by kernel_rfl, by kernel_rfl⟩
instance : HasBody Tryz.prog 365 := ⟨Tryz.f365, Tryz.func365, by kernel_rfl, by kernel_rfl⟩
instance : HasBody Tryz.prog 366 := ⟨Tryz.f366, Tryz.func366, by kernel_rfl, by kernel_rfl⟩
instance : HasBody Tryz.prog 367 := ⟨Tryz.f367, Tryz.func367, by kernel_rfl, by kernel_rfl⟩
instance : HasBody Tryz.prog 368 := ⟨Tryz.f368, Tryz.func368, by kernel_rfl, by kernel_rfl⟩
instance : HasBody Tryz.prog 369 := ⟨Tryz.f369, Tryz.func369, by kernel_rfl, by kernel_rfl⟩
instance : HasBody Tryz.prog 370 := ⟨Tryz.f370, Tryz.func370, by kernel_rfl, by kernel_rfl⟩
instance : HasBody Tryz.prog 371 := ⟨Tryz.f371, Tryz.func371, by kernel_rfl, by kernel_rfl⟩
instance : HasBody Tryz.prog 372 := ⟨Tryz.f372, Tryz.func372, by kernel_rfl, by kernel_rfl⟩
instance : HasBody Tryz.prog 373 := ⟨Tryz.f373, Tryz.func373, by kernel_rfl, by kernel_rfl⟩
instance : HasBody Tryz.prog 374 := ⟨Tryz.f374, Tryz.func374, by kernel_rfl, by kernel_rfl⟩
instance : HasBody Tryz.prog 375 := ⟨Tryz.f375, Tryz.func375, by kernel_rfl, by kernel_rfl⟩
instance : HasBody Tryz.prog 376 := ⟨Tryz.f376, Tryz.func376, by kernel_rfl, by kernel_rfl⟩
instance : HasBody Tryz.prog 377 := ⟨Tryz.f377, Tryz.func377, by kernel_rfl, by kernel_rfl⟩
instance : HasBody Tryz.prog 378 := ⟨Tryz.f378, Tryz.func378, by kernel_rfl, by kernel_rfl⟩
instance : HasBody Tryz.prog 379 := ⟨Tryz.f379, Tryz.func379, by kernel_rfl, by kernel_rfl⟩
instance : HasBody Tryz.prog 380 := ⟨Tryz.f380, Tryz.func380, by kernel_rfl, by kernel_rfl⟩
instance : HasBody Tryz.prog 381 := ⟨Tryz.f381, Tryz.func381, by kernel_rfl, by kernel_rfl⟩
end Go.Proofs
