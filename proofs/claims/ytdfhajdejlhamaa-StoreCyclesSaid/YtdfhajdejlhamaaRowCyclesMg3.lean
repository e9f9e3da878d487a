/-
  What is known of this seat's types and functions, for the frame. Printed by a program. Conditions: none.
  The frame of a law's proof: from what the walk gives to the row. Conditions: none.
  More of the frame: whole numbers of other kinds; a part of what can be read. Conditions: none.
  More of the frame: slices of slices; many parts as one; copy; bits; bools. Conditions: none.
  The frame of a law's proof, where the size of what is handed in is asked; slices of slices, read. Conditions: none.
-/
import Derived.Test.YtdfhajdejlhamaaRows
import Derived.Test.YtdfhajdejlhamaaRowCyclesMg2
import Derived.WalkKit
import Derived.ProofKit
import Derived.OpenShut
import Derived.Deep.Slices
import Derived.Deep.Fields
import Derived.ChangeSame
import Derived.Carry
import Derived.Laws.CopyRow
import Derived.Laws.Small
import Derived.Scope
import Derived.SizedLaws
import Derived.Deep.Matrix
namespace Go.Proofs.Ytdfhajdejlhamaa
open Go Go.Fw
set_option maxRecDepth 100000
instance : TSc Try.prog 1 := ⟨_, Try.underlying1, rfl⟩
instance : TIf Try.prog 1 .nilFunc [.nilFunc] 1 8 := ⟨⟨Try.t1, rfl, rfl, rfl, rfl⟩, rfl⟩
instance : TSc Try.prog 2 := ⟨_, Try.underlying2, rfl⟩
instance : TIn Try.prog 2 .i64 := ⟨Try.underlying2⟩
instance : TIf Try.prog 2 (.int .i64 0) [(.int .i64 0)] 1 8 := ⟨⟨Try.t2, rfl, rfl, rfl, rfl⟩, rfl⟩
instance : TSc Try.prog 3 := ⟨_, Try.underlying3, rfl⟩
instance : TIn Try.prog 3 .i64 := ⟨Try.underlying3⟩
instance : TIf Try.prog 3 (.int .i64 0) [(.int .i64 0)] 1 8 := ⟨⟨Try.t3, rfl, rfl, rfl, rfl⟩, rfl⟩
instance : TSc Try.prog 4 := ⟨_, Try.underlying4, rfl⟩
instance : TBo Try.prog 4 := ⟨Try.underlying4⟩
instance : TIf Try.prog 4 (.bool false) [(.bool false)] 1 1 := ⟨⟨Try.t4, rfl, rfl, rfl, rfl⟩, rfl⟩
instance : TSc Try.prog 5 := ⟨_, Try.underlying5, rfl⟩
instance : TIn Try.prog 5 .u8 := ⟨Try.underlying5⟩
instance : TIf Try.prog 5 (.int .u8 0) [(.int .u8 0)] 1 1 := ⟨⟨Try.t5, rfl, rfl, rfl, rfl⟩, rfl⟩
instance : TSc Try.prog 6 := ⟨_, Try.underlying6, rfl⟩
instance : TIn Try.prog 6 .u8 := ⟨Try.underlying6⟩
instance : TIf Try.prog 6 (.int .u8 0) [(.int .u8 0)] 1 1 := ⟨⟨Try.t6, rfl, rfl, rfl, rfl⟩, rfl⟩
instance : TSt Try.prog 7 [(2, 0), (3, 1), (4, 2), (6, 3)] := ⟨⟨_, Try.underlying7, rfl⟩, List.forall_mem_cons.2 ⟨⟨Try.t2, rfl, by decide⟩, List.forall_mem_cons.2 ⟨⟨Try.t3, rfl, by decide⟩, List.forall_mem_cons.2 ⟨⟨Try.t4, rfl, by decide⟩, List.forall_mem_cons.2 ⟨⟨Try.t6, rfl, by decide⟩, nofun⟩⟩⟩⟩⟩
instance : TIf Try.prog 7 (.agg #[(.int .i64 0), (.int .i64 0), (.bool false), (.int .u8 0)]) [(.int .i64 0), (.int .i64 0), (.bool false), (.int .u8 0)] 4 24 := ⟨⟨Try.t7, rfl, rfl, rfl, rfl⟩, rfl⟩
instance : TSt Try.prog 8 [(2, 0), (3, 1), (4, 2), (6, 3)] := ⟨⟨_, Try.underlying8, rfl⟩, List.forall_mem_cons.2 ⟨⟨Try.t2, rfl, by decide⟩, List.forall_mem_cons.2 ⟨⟨Try.t3, rfl, by decide⟩, List.forall_mem_cons.2 ⟨⟨Try.t4, rfl, by decide⟩, List.forall_mem_cons.2 ⟨⟨Try.t6, rfl, by decide⟩, nofun⟩⟩⟩⟩⟩
instance : TIf Try.prog 8 (.agg #[(.int .i64 0), (.int .i64 0), (.bool false), (.int .u8 0)]) [(.int .i64 0), (.int .i64 0), (.bool false), (.int .u8 0)] 4 24 := ⟨⟨Try.t8, rfl, rfl, rfl, rfl⟩, rfl⟩
instance : TSc Try.prog 9 := ⟨_, Try.underlying9, rfl⟩
instance : TSr Try.prog 9 := ⟨Try.underlying9⟩
instance : TIf Try.prog 9 (.string ByteArray.empty) [(.string ByteArray.empty)] 1 16 := ⟨⟨Try.t9, rfl, rfl, rfl, rfl⟩, rfl⟩
instance : TSc Try.prog 10 := ⟨_, Try.underlying10, rfl⟩
instance : TSr Try.prog 10 := ⟨Try.underlying10⟩
instance : TIf Try.prog 10 (.string ByteArray.empty) [(.string ByteArray.empty)] 1 16 := ⟨⟨Try.t10, rfl, rfl, rfl, rfl⟩, rfl⟩
instance : TSc Try.prog 11 := ⟨_, Try.underlying11, rfl⟩
instance : TSr Try.prog 11 := ⟨Try.underlying11⟩
instance : TIf Try.prog 11 (.string ByteArray.empty) [(.string ByteArray.empty)] 1 16 := ⟨⟨Try.t11, rfl, rfl, rfl, rfl⟩, rfl⟩
instance : TSc Try.prog 12 := ⟨_, Try.underlying12, rfl⟩
instance : TIn Try.prog 12 .u64 := ⟨Try.underlying12⟩
instance : TIf Try.prog 12 (.int .u64 0) [(.int .u64 0)] 1 8 := ⟨⟨Try.t12, rfl, rfl, rfl, rfl⟩, rfl⟩
instance : TSt Try.prog 13 [(9, 0), (12, 1)] := ⟨⟨_, Try.underlying13, rfl⟩, List.forall_mem_cons.2 ⟨⟨Try.t9, rfl, by decide⟩, List.forall_mem_cons.2 ⟨⟨Try.t12, rfl, by decide⟩, nofun⟩⟩⟩
instance : TIf Try.prog 13 (.agg #[(.string ByteArray.empty), (.int .u64 0)]) [(.string ByteArray.empty), (.int .u64 0)] 2 24 := ⟨⟨Try.t13, rfl, rfl, rfl, rfl⟩, rfl⟩
instance : TSt Try.prog 14 [(9, 0), (12, 1)] := ⟨⟨_, Try.underlying14, rfl⟩, List.forall_mem_cons.2 ⟨⟨Try.t9, rfl, by decide⟩, List.forall_mem_cons.2 ⟨⟨Try.t12, rfl, by decide⟩, nofun⟩⟩⟩
instance : TIf Try.prog 14 (.agg #[(.string ByteArray.empty), (.int .u64 0)]) [(.string ByteArray.empty), (.int .u64 0)] 2 24 := ⟨⟨Try.t14, rfl, rfl, rfl, rfl⟩, rfl⟩
instance : TSc Try.prog 15 := ⟨_, Try.underlying15, rfl⟩
instance : TPt Try.prog 15 := ⟨by unfold Program.pointee; rw [Try.underlying15]⟩
instance : TIf Try.prog 15 (.pointer none) [(.pointer none)] 1 8 := ⟨⟨Try.t15, rfl, rfl, rfl, rfl⟩, rfl⟩
instance : TSc Try.prog 16 := ⟨_, Try.underlying16, rfl⟩
instance : TPt Try.prog 16 := ⟨by unfold Program.pointee; rw [Try.underlying16]⟩
instance : TIf Try.prog 16 (.pointer none) [(.pointer none)] 1 8 := ⟨⟨Try.t16, rfl, rfl, rfl, rfl⟩, rfl⟩
instance : TSc Try.prog 17 := ⟨_, Try.underlying17, rfl⟩
instance : TPt Try.prog 17 := ⟨by unfold Program.pointee; rw [Try.underlying17]⟩
instance : TIf Try.prog 17 (.pointer none) [(.pointer none)] 1 8 := ⟨⟨Try.t17, rfl, rfl, rfl, rfl⟩, rfl⟩
instance : TSt Try.prog 18 [(17, 0)] := ⟨⟨_, Try.underlying18, rfl⟩, List.forall_mem_cons.2 ⟨⟨Try.t17, rfl, by decide⟩, nofun⟩⟩
instance : TIf Try.prog 18 (.agg #[(.pointer none)]) [(.pointer none)] 1 8 := ⟨⟨Try.t18, rfl, rfl, rfl, rfl⟩, rfl⟩
instance : TSt Try.prog 19 [(17, 0)] := ⟨⟨_, Try.underlying19, rfl⟩, List.forall_mem_cons.2 ⟨⟨Try.t17, rfl, by decide⟩, nofun⟩⟩
instance : TIf Try.prog 19 (.agg #[(.pointer none)]) [(.pointer none)] 1 8 := ⟨⟨Try.t19, rfl, rfl, rfl, rfl⟩, rfl⟩
instance : TSc Try.prog 20 := ⟨_, Try.underlying20, rfl⟩
instance : TIf Try.prog 20 .nilIface [.nilIface] 1 16 := ⟨⟨Try.t20, rfl, rfl, rfl, rfl⟩, rfl⟩
instance : TSc Try.prog 21 := ⟨_, Try.underlying21, rfl⟩
instance : TIn Try.prog 21 .i32 := ⟨Try.underlying21⟩
instance : TIf Try.prog 21 (.int .i32 0) [(.int .i32 0)] 1 4 := ⟨⟨Try.t21, rfl, rfl, rfl, rfl⟩, rfl⟩
instance : TSc Try.prog 22 := ⟨_, Try.underlying22, rfl⟩
instance : TSl Try.prog 22 30 := ⟨Try.underlying22⟩
instance : TIf Try.prog 22 (.slice none 0 0) [(.slice none 0 0)] 1 24 := ⟨⟨Try.t22, rfl, rfl, rfl, rfl⟩, rfl⟩
instance : TSc Try.prog 23 := ⟨_, Try.underlying23, rfl⟩
instance : TIf Try.prog 23 .nilFunc [.nilFunc] 1 8 := ⟨⟨Try.t23, rfl, rfl, rfl, rfl⟩, rfl⟩
instance : TSc Try.prog 24 := ⟨_, Try.underlying24, rfl⟩
instance : TPt Try.prog 24 := ⟨by unfold Program.pointee; rw [Try.underlying24]⟩
instance : TIf Try.prog 24 (.pointer none) [(.pointer none)] 1 8 := ⟨⟨Try.t24, rfl, rfl, rfl, rfl⟩, rfl⟩
instance : TSc Try.prog 25 := ⟨_, Try.underlying25, rfl⟩
instance : TIf Try.prog 25 .nilFunc [.nilFunc] 1 8 := ⟨⟨Try.t25, rfl, rfl, rfl, rfl⟩, rfl⟩
instance : TSc Try.prog 26 := ⟨_, Try.underlying26, rfl⟩
instance : TPt Try.prog 26 := ⟨by unfold Program.pointee; rw [Try.underlying26]⟩
instance : TIf Try.prog 26 (.pointer none) [(.pointer none)] 1 8 := ⟨⟨Try.t26, rfl, rfl, rfl, rfl⟩, rfl⟩
instance : TSc Try.prog 27 := ⟨_, Try.underlying27, rfl⟩
instance : TIf Try.prog 27 .nilFunc [.nilFunc] 1 8 := ⟨⟨Try.t27, rfl, rfl, rfl, rfl⟩, rfl⟩
instance : TSc Try.prog 28 := ⟨_, Try.underlying28, rfl⟩
instance : TSl Try.prog 28 33 := ⟨Try.underlying28⟩
instance : TIf Try.prog 28 (.slice none 0 0) [(.slice none 0 0)] 1 24 := ⟨⟨Try.t28, rfl, rfl, rfl, rfl⟩, rfl⟩
instance : TSt Try.prog 29 [(3, 0), (3, 1), (3, 2), (3, 3), (3, 4), (9, 5)] := ⟨⟨_, Try.underlying29, rfl⟩, List.forall_mem_cons.2 ⟨⟨Try.t3, rfl, by decide⟩, List.forall_mem_cons.2 ⟨⟨Try.t3, rfl, by decide⟩, List.forall_mem_cons.2 ⟨⟨Try.t3, rfl, by decide⟩, List.forall_mem_cons.2 ⟨⟨Try.t3, rfl, by decide⟩, List.forall_mem_cons.2 ⟨⟨Try.t3, rfl, by decide⟩, List.forall_mem_cons.2 ⟨⟨Try.t9, rfl, by decide⟩, nofun⟩⟩⟩⟩⟩⟩⟩
instance : TIf Try.prog 29 (.agg #[(.int .i64 0), (.int .i64 0), (.int .i64 0), (.int .i64 0), (.int .i64 0), (.string ByteArray.empty)]) [(.int .i64 0), (.int .i64 0), (.int .i64 0), (.int .i64 0), (.int .i64 0), (.string ByteArray.empty)] 6 56 := ⟨⟨Try.t29, rfl, rfl, rfl, rfl⟩, rfl⟩
instance : TSt Try.prog 30 [(3, 0), (3, 1), (3, 2), (3, 3), (3, 4), (9, 5)] := ⟨⟨_, Try.underlying30, rfl⟩, List.forall_mem_cons.2 ⟨⟨Try.t3, rfl, by decide⟩, List.forall_mem_cons.2 ⟨⟨Try.t3, rfl, by decide⟩, List.forall_mem_cons.2 ⟨⟨Try.t3, rfl, by decide⟩, List.forall_mem_cons.2 ⟨⟨Try.t3, rfl, by decide⟩, List.forall_mem_cons.2 ⟨⟨Try.t3, rfl, by decide⟩, List.forall_mem_cons.2 ⟨⟨Try.t9, rfl, by decide⟩, nofun⟩⟩⟩⟩⟩⟩⟩
instance : TIf Try.prog 30 (.agg #[(.int .i64 0), (.int .i64 0), (.int .i64 0), (.int .i64 0), (.int .i64 0), (.string ByteArray.empty)]) [(.int .i64 0), (.int .i64 0), (.int .i64 0), (.int .i64 0), (.int .i64 0), (.string ByteArray.empty)] 6 56 := ⟨⟨Try.t30, rfl, rfl, rfl, rfl⟩, rfl⟩
instance : TSc Try.prog 31 := ⟨_, Try.underlying31, rfl⟩
instance : TIf Try.prog 31 .nilFunc [.nilFunc] 1 8 := ⟨⟨Try.t31, rfl, rfl, rfl, rfl⟩, rfl⟩
instance : TSc Try.prog 32 := ⟨_, Try.underlying32, rfl⟩
instance : TIn Try.prog 32 .u64 := ⟨Try.underlying32⟩
instance : TIf Try.prog 32 (.int .u64 0) [(.int .u64 0)] 1 8 := ⟨⟨Try.t32, rfl, rfl, rfl, rfl⟩, rfl⟩
instance : TSc Try.prog 33 := ⟨_, Try.underlying33, rfl⟩
instance : TIn Try.prog 33 .u64 := ⟨Try.underlying33⟩
instance : TIf Try.prog 33 (.int .u64 0) [(.int .u64 0)] 1 8 := ⟨⟨Try.t33, rfl, rfl, rfl, rfl⟩, rfl⟩
instance : TSc Try.prog 34 := ⟨_, Try.underlying34, rfl⟩
instance : TIn Try.prog 34 .i64 := ⟨Try.underlying34⟩
instance : TIf Try.prog 34 (.int .i64 0) [(.int .i64 0)] 1 8 := ⟨⟨Try.t34, rfl, rfl, rfl, rfl⟩, rfl⟩
instance : TSc Try.prog 36 := ⟨_, Try.underlying36, rfl⟩
instance : TIf Try.prog 36 .nilFunc [.nilFunc] 1 8 := ⟨⟨Try.t36, rfl, rfl, rfl, rfl⟩, rfl⟩
instance : TSc Try.prog 37 := ⟨_, Try.underlying37, rfl⟩
instance : TIf Try.prog 37 .nilFunc [.nilFunc] 1 8 := ⟨⟨Try.t37, rfl, rfl, rfl, rfl⟩, rfl⟩
instance : TSc Try.prog 38 := ⟨_, Try.underlying38, rfl⟩
instance : TIf Try.prog 38 .nilFunc [.nilFunc] 1 8 := ⟨⟨Try.t38, rfl, rfl, rfl, rfl⟩, rfl⟩
instance : TSc Try.prog 39 := ⟨_, Try.underlying39, rfl⟩
instance : TIf Try.prog 39 .nilFunc [.nilFunc] 1 8 := ⟨⟨Try.t39, rfl, rfl, rfl, rfl⟩, rfl⟩
instance : TSc Try.prog 40 := ⟨_, Try.underlying40, rfl⟩
instance : TIf Try.prog 40 .nilFunc [.nilFunc] 1 8 := ⟨⟨Try.t40, rfl, rfl, rfl, rfl⟩, rfl⟩
instance : TSc Try.prog 41 := ⟨_, Try.underlying41, rfl⟩
instance : TIf Try.prog 41 .nilFunc [.nilFunc] 1 8 := ⟨⟨Try.t41, rfl, rfl, rfl, rfl⟩, rfl⟩
instance : TSc Try.prog 42 := ⟨_, Try.underlying42, rfl⟩
instance : TIf Try.prog 42 .nilFunc [.nilFunc] 1 8 := ⟨⟨Try.t42, rfl, rfl, rfl, rfl⟩, rfl⟩
instance : TSc Try.prog 43 := ⟨_, Try.underlying43, rfl⟩
instance : TIn Try.prog 43 .u64 := ⟨Try.underlying43⟩
instance : TIf Try.prog 43 (.int .u64 0) [(.int .u64 0)] 1 8 := ⟨⟨Try.t43, rfl, rfl, rfl, rfl⟩, rfl⟩
instance : TSc Try.prog 44 := ⟨_, Try.underlying44, rfl⟩
instance : TSl Try.prog 44 3 := ⟨Try.underlying44⟩
instance : TIf Try.prog 44 (.slice none 0 0) [(.slice none 0 0)] 1 24 := ⟨⟨Try.t44, rfl, rfl, rfl, rfl⟩, rfl⟩
instance : TSc Try.prog 45 := ⟨_, Try.underlying45, rfl⟩
instance : TIf Try.prog 45 .nilFunc [.nilFunc] 1 8 := ⟨⟨Try.t45, rfl, rfl, rfl, rfl⟩, rfl⟩
instance : TSc Try.prog 46 := ⟨_, Try.underlying46, rfl⟩
instance : TPt Try.prog 46 := ⟨by unfold Program.pointee; rw [Try.underlying46]⟩
instance : TIf Try.prog 46 (.pointer none) [(.pointer none)] 1 8 := ⟨⟨Try.t46, rfl, rfl, rfl, rfl⟩, rfl⟩
instance : TSt Try.prog 47 [(46, 0), (3, 1), (44, 2), (44, 3), (3, 4)] := ⟨⟨_, Try.underlying47, rfl⟩, List.forall_mem_cons.2 ⟨⟨Try.t46, rfl, by decide⟩, List.forall_mem_cons.2 ⟨⟨Try.t3, rfl, by decide⟩, List.forall_mem_cons.2 ⟨⟨Try.t44, rfl, by decide⟩, List.forall_mem_cons.2 ⟨⟨Try.t44, rfl, by decide⟩, List.forall_mem_cons.2 ⟨⟨Try.t3, rfl, by decide⟩, nofun⟩⟩⟩⟩⟩⟩
instance : TIf Try.prog 47 (.agg #[(.pointer none), (.int .i64 0), (.slice none 0 0), (.slice none 0 0), (.int .i64 0)]) [(.pointer none), (.int .i64 0), (.slice none 0 0), (.slice none 0 0), (.int .i64 0)] 5 72 := ⟨⟨Try.t47, rfl, rfl, rfl, rfl⟩, rfl⟩
instance : TSt Try.prog 48 [(46, 0), (3, 1), (44, 2), (44, 3), (3, 4)] := ⟨⟨_, Try.underlying48, rfl⟩, List.forall_mem_cons.2 ⟨⟨Try.t46, rfl, by decide⟩, List.forall_mem_cons.2 ⟨⟨Try.t3, rfl, by decide⟩, List.forall_mem_cons.2 ⟨⟨Try.t44, rfl, by decide⟩, List.forall_mem_cons.2 ⟨⟨Try.t44, rfl, by decide⟩, List.forall_mem_cons.2 ⟨⟨Try.t3, rfl, by decide⟩, nofun⟩⟩⟩⟩⟩⟩
instance : TIf Try.prog 48 (.agg #[(.pointer none), (.int .i64 0), (.slice none 0 0), (.slice none 0 0), (.int .i64 0)]) [(.pointer none), (.int .i64 0), (.slice none 0 0), (.slice none 0 0), (.int .i64 0)] 5 72 := ⟨⟨Try.t48, rfl, rfl, rfl, rfl⟩, rfl⟩
instance : TSc Try.prog 49 := ⟨_, Try.underlying49, rfl⟩
instance : TPt Try.prog 49 := ⟨by unfold Program.pointee; rw [Try.underlying49]⟩
instance : TIf Try.prog 49 (.pointer none) [(.pointer none)] 1 8 := ⟨⟨Try.t49, rfl, rfl, rfl, rfl⟩, rfl⟩
instance : TSt Try.prog 50 [(49, 0), (3, 1)] := ⟨⟨_, Try.underlying50, rfl⟩, List.forall_mem_cons.2 ⟨⟨Try.t49, rfl, by decide⟩, List.forall_mem_cons.2 ⟨⟨Try.t3, rfl, by decide⟩, nofun⟩⟩⟩
instance : TIf Try.prog 50 (.agg #[(.pointer none), (.int .i64 0)]) [(.pointer none), (.int .i64 0)] 2 16 := ⟨⟨Try.t50, rfl, rfl, rfl, rfl⟩, rfl⟩
instance : TSt Try.prog 51 [(49, 0), (3, 1)] := ⟨⟨_, Try.underlying51, rfl⟩, List.forall_mem_cons.2 ⟨⟨Try.t49, rfl, by decide⟩, List.forall_mem_cons.2 ⟨⟨Try.t3, rfl, by decide⟩, nofun⟩⟩⟩
instance : TIf Try.prog 51 (.agg #[(.pointer none), (.int .i64 0)]) [(.pointer none), (.int .i64 0)] 2 16 := ⟨⟨Try.t51, rfl, rfl, rfl, rfl⟩, rfl⟩
instance : TSt Try.prog 52 [(3, 0), (3, 1), (28, 2)] := ⟨⟨_, Try.underlying52, rfl⟩, List.forall_mem_cons.2 ⟨⟨Try.t3, rfl, by decide⟩, List.forall_mem_cons.2 ⟨⟨Try.t3, rfl, by decide⟩, List.forall_mem_cons.2 ⟨⟨Try.t28, rfl, by decide⟩, nofun⟩⟩⟩⟩
instance : TIf Try.prog 52 (.agg #[(.int .i64 0), (.int .i64 0), (.slice none 0 0)]) [(.int .i64 0), (.int .i64 0), (.slice none 0 0)] 3 40 := ⟨⟨Try.t52, rfl, rfl, rfl, rfl⟩, rfl⟩
instance : TSt Try.prog 53 [(3, 0), (3, 1), (28, 2)] := ⟨⟨_, Try.underlying53, rfl⟩, List.forall_mem_cons.2 ⟨⟨Try.t3, rfl, by decide⟩, List.forall_mem_cons.2 ⟨⟨Try.t3, rfl, by decide⟩, List.forall_mem_cons.2 ⟨⟨Try.t28, rfl, by decide⟩, nofun⟩⟩⟩⟩
instance : TIf Try.prog 53 (.agg #[(.int .i64 0), (.int .i64 0), (.slice none 0 0)]) [(.int .i64 0), (.int .i64 0), (.slice none 0 0)] 3 40 := ⟨⟨Try.t53, rfl, rfl, rfl, rfl⟩, rfl⟩
instance : TSc Try.prog 54 := ⟨_, Try.underlying54, rfl⟩
instance : TSl Try.prog 54 53 := ⟨Try.underlying54⟩
instance : TIf Try.prog 54 (.slice none 0 0) [(.slice none 0 0)] 1 24 := ⟨⟨Try.t54, rfl, rfl, rfl, rfl⟩, rfl⟩
instance : TSt Try.prog 55 [(3, 0), (54, 1)] := ⟨⟨_, Try.underlying55, rfl⟩, List.forall_mem_cons.2 ⟨⟨Try.t3, rfl, by decide⟩, List.forall_mem_cons.2 ⟨⟨Try.t54, rfl, by decide⟩, nofun⟩⟩⟩
instance : TIf Try.prog 55 (.agg #[(.int .i64 0), (.slice none 0 0)]) [(.int .i64 0), (.slice none 0 0)] 2 32 := ⟨⟨Try.t55, rfl, rfl, rfl, rfl⟩, rfl⟩
instance : TSt Try.prog 56 [(3, 0), (54, 1)] := ⟨⟨_, Try.underlying56, rfl⟩, List.forall_mem_cons.2 ⟨⟨Try.t3, rfl, by decide⟩, List.forall_mem_cons.2 ⟨⟨Try.t54, rfl, by decide⟩, nofun⟩⟩⟩
instance : TIf Try.prog 56 (.agg #[(.int .i64 0), (.slice none 0 0)]) [(.int .i64 0), (.slice none 0 0)] 2 32 := ⟨⟨Try.t56, rfl, rfl, rfl, rfl⟩, rfl⟩
instance : TSc Try.prog 57 := ⟨_, Try.underlying57, rfl⟩
instance : TIf Try.prog 57 .nilFunc [.nilFunc] 1 8 := ⟨⟨Try.t57, rfl, rfl, rfl, rfl⟩, rfl⟩
instance : TSc Try.prog 59 := ⟨_, Try.underlying59, rfl⟩
instance : TIf Try.prog 59 .nilFunc [.nilFunc] 1 8 := ⟨⟨Try.t59, rfl, rfl, rfl, rfl⟩, rfl⟩
instance : TSc Try.prog 60 := ⟨_, Try.underlying60, rfl⟩
instance : TIf Try.prog 60 .nilFunc [.nilFunc] 1 8 := ⟨⟨Try.t60, rfl, rfl, rfl, rfl⟩, rfl⟩
instance : TSc Try.prog 61 := ⟨_, Try.underlying61, rfl⟩
instance : TIf Try.prog 61 .nilFunc [.nilFunc] 1 8 := ⟨⟨Try.t61, rfl, rfl, rfl, rfl⟩, rfl⟩
instance : TSc Try.prog 62 := ⟨_, Try.underlying62, rfl⟩
instance : TIf Try.prog 62 .nilFunc [.nilFunc] 1 8 := ⟨⟨Try.t62, rfl, rfl, rfl, rfl⟩, rfl⟩
instance : TSc Try.prog 64 := ⟨_, Try.underlying64, rfl⟩
instance : TIf Try.prog 64 .nilFunc [.nilFunc] 1 8 := ⟨⟨Try.t64, rfl, rfl, rfl, rfl⟩, rfl⟩
instance : TSc Try.prog 65 := ⟨_, Try.underlying65, rfl⟩
instance : TIf Try.prog 65 .nilFunc [.nilFunc] 1 8 := ⟨⟨Try.t65, rfl, rfl, rfl, rfl⟩, rfl⟩
instance : TSc Try.prog 66 := ⟨_, Try.underlying66, rfl⟩
instance : TIf Try.prog 66 .nilFunc [.nilFunc] 1 8 := ⟨⟨Try.t66, rfl, rfl, rfl, rfl⟩, rfl⟩
instance : TSc Try.prog 67 := ⟨_, Try.underlying67, rfl⟩
instance : TIf Try.prog 67 .nilFunc [.nilFunc] 1 8 := ⟨⟨Try.t67, rfl, rfl, rfl, rfl⟩, rfl⟩
instance : TSc Try.prog 68 := ⟨_, Try.underlying68, rfl⟩
instance : TPt Try.prog 68 := ⟨by unfold Program.pointee; rw [Try.underlying68]⟩
instance : TIf Try.prog 68 (.pointer none) [(.pointer none)] 1 8 := ⟨⟨Try.t68, rfl, rfl, rfl, rfl⟩, rfl⟩
instance : TSc Try.prog 69 := ⟨_, Try.underlying69, rfl⟩
instance : TSl Try.prog 69 72 := ⟨Try.underlying69⟩
instance : TIf Try.prog 69 (.slice none 0 0) [(.slice none 0 0)] 1 24 := ⟨⟨Try.t69, rfl, rfl, rfl, rfl⟩, rfl⟩
instance : TSt Try.prog 70 [(44, 0), (69, 1)] := ⟨⟨_, Try.underlying70, rfl⟩, List.forall_mem_cons.2 ⟨⟨Try.t44, rfl, by decide⟩, List.forall_mem_cons.2 ⟨⟨Try.t69, rfl, by decide⟩, nofun⟩⟩⟩
instance : TIf Try.prog 70 (.agg #[(.slice none 0 0), (.slice none 0 0)]) [(.slice none 0 0), (.slice none 0 0)] 2 48 := ⟨⟨Try.t70, rfl, rfl, rfl, rfl⟩, rfl⟩
instance : TSt Try.prog 71 [(44, 0), (69, 1)] := ⟨⟨_, Try.underlying71, rfl⟩, List.forall_mem_cons.2 ⟨⟨Try.t44, rfl, by decide⟩, List.forall_mem_cons.2 ⟨⟨Try.t69, rfl, by decide⟩, nofun⟩⟩⟩
instance : TIf Try.prog 71 (.agg #[(.slice none 0 0), (.slice none 0 0)]) [(.slice none 0 0), (.slice none 0 0)] 2 48 := ⟨⟨Try.t71, rfl, rfl, rfl, rfl⟩, rfl⟩
instance : TSc Try.prog 72 := ⟨_, Try.underlying72, rfl⟩
instance : TSl Try.prog 72 74 := ⟨Try.underlying72⟩
instance : TIf Try.prog 72 (.slice none 0 0) [(.slice none 0 0)] 1 24 := ⟨⟨Try.t72, rfl, rfl, rfl, rfl⟩, rfl⟩
instance : TSt Try.prog 73 [(4, 0), (2, 1)] := ⟨⟨_, Try.underlying73, rfl⟩, List.forall_mem_cons.2 ⟨⟨Try.t4, rfl, by decide⟩, List.forall_mem_cons.2 ⟨⟨Try.t2, rfl, by decide⟩, nofun⟩⟩⟩
instance : TIf Try.prog 73 (.agg #[(.bool false), (.int .i64 0)]) [(.bool false), (.int .i64 0)] 2 16 := ⟨⟨Try.t73, rfl, rfl, rfl, rfl⟩, rfl⟩
instance : TSt Try.prog 74 [(4, 0), (2, 1)] := ⟨⟨_, Try.underlying74, rfl⟩, List.forall_mem_cons.2 ⟨⟨Try.t4, rfl, by decide⟩, List.forall_mem_cons.2 ⟨⟨Try.t2, rfl, by decide⟩, nofun⟩⟩⟩
instance : TIf Try.prog 74 (.agg #[(.bool false), (.int .i64 0)]) [(.bool false), (.int .i64 0)] 2 16 := ⟨⟨Try.t74, rfl, rfl, rfl, rfl⟩, rfl⟩
instance : TSc Try.prog 75 := ⟨_, Try.underlying75, rfl⟩
instance : TIf Try.prog 75 .nilFunc [.nilFunc] 1 8 := ⟨⟨Try.t75, rfl, rfl, rfl, rfl⟩, rfl⟩
instance : TSc Try.prog 77 := ⟨_, Try.underlying77, rfl⟩
instance : TIf Try.prog 77 .nilFunc [.nilFunc] 1 8 := ⟨⟨Try.t77, rfl, rfl, rfl, rfl⟩, rfl⟩
instance : TSc Try.prog 78 := ⟨_, Try.underlying78, rfl⟩
instance : TIf Try.prog 78 .nilFunc [.nilFunc] 1 8 := ⟨⟨Try.t78, rfl, rfl, rfl, rfl⟩, rfl⟩
instance : TSc Try.prog 79 := ⟨_, Try.underlying79, rfl⟩
instance : TIf Try.prog 79 .nilFunc [.nilFunc] 1 8 := ⟨⟨Try.t79, rfl, rfl, rfl, rfl⟩, rfl⟩
instance : TSc Try.prog 80 := ⟨_, Try.underlying80, rfl⟩
instance : TIf Try.prog 80 .nilFunc [.nilFunc] 1 8 := ⟨⟨Try.t80, rfl, rfl, rfl, rfl⟩, rfl⟩
instance : TSc Try.prog 81 := ⟨_, Try.underlying81, rfl⟩
instance : TPt Try.prog 81 := ⟨by unfold Program.pointee; rw [Try.underlying81]⟩
instance : TIf Try.prog 81 (.pointer none) [(.pointer none)] 1 8 := ⟨⟨Try.t81, rfl, rfl, rfl, rfl⟩, rfl⟩
instance : TSc Try.prog 82 := ⟨_, Try.underlying82, rfl⟩
instance : TIf Try.prog 82 .nilFunc [.nilFunc] 1 8 := ⟨⟨Try.t82, rfl, rfl, rfl, rfl⟩, rfl⟩
instance : TSc Try.prog 83 := ⟨_, Try.underlying83, rfl⟩
instance : TPt Try.prog 83 := ⟨by unfold Program.pointee; rw [Try.underlying83]⟩
instance : TIf Try.prog 83 (.pointer none) [(.pointer none)] 1 8 := ⟨⟨Try.t83, rfl, rfl, rfl, rfl⟩, rfl⟩
instance : TSc Try.prog 84 := ⟨_, Try.underlying84, rfl⟩
instance : TIf Try.prog 84 .nilFunc [.nilFunc] 1 8 := ⟨⟨Try.t84, rfl, rfl, rfl, rfl⟩, rfl⟩
instance : TSt Try.prog 85 [(83, 0), (81, 1), (3, 2)] := ⟨⟨_, Try.underlying85, rfl⟩, List.forall_mem_cons.2 ⟨⟨Try.t83, rfl, by decide⟩, List.forall_mem_cons.2 ⟨⟨Try.t81, rfl, by decide⟩, List.forall_mem_cons.2 ⟨⟨Try.t3, rfl, by decide⟩, nofun⟩⟩⟩⟩
instance : TIf Try.prog 85 (.agg #[(.pointer none), (.pointer none), (.int .i64 0)]) [(.pointer none), (.pointer none), (.int .i64 0)] 3 24 := ⟨⟨Try.t85, rfl, rfl, rfl, rfl⟩, rfl⟩
instance : TSt Try.prog 86 [(83, 0), (81, 1), (3, 2)] := ⟨⟨_, Try.underlying86, rfl⟩, List.forall_mem_cons.2 ⟨⟨Try.t83, rfl, by decide⟩, List.forall_mem_cons.2 ⟨⟨Try.t81, rfl, by decide⟩, List.forall_mem_cons.2 ⟨⟨Try.t3, rfl, by decide⟩, nofun⟩⟩⟩⟩
instance : TIf Try.prog 86 (.agg #[(.pointer none), (.pointer none), (.int .i64 0)]) [(.pointer none), (.pointer none), (.int .i64 0)] 3 24 := ⟨⟨Try.t86, rfl, rfl, rfl, rfl⟩, rfl⟩
instance : TSc Try.prog 87 := ⟨_, Try.underlying87, rfl⟩
instance : TIf Try.prog 87 .nilFunc [.nilFunc] 1 8 := ⟨⟨Try.t87, rfl, rfl, rfl, rfl⟩, rfl⟩
instance : TSc Try.prog 88 := ⟨_, Try.underlying88, rfl⟩
instance : TIf Try.prog 88 .nilFunc [.nilFunc] 1 8 := ⟨⟨Try.t88, rfl, rfl, rfl, rfl⟩, rfl⟩
instance : TSc Try.prog 89 := ⟨_, Try.underlying89, rfl⟩
instance : TIf Try.prog 89 .nilFunc [.nilFunc] 1 8 := ⟨⟨Try.t89, rfl, rfl, rfl, rfl⟩, rfl⟩
instance : TSc Try.prog 90 := ⟨_, Try.underlying90, rfl⟩
instance : TIf Try.prog 90 .nilFunc [.nilFunc] 1 8 := ⟨⟨Try.t90, rfl, rfl, rfl, rfl⟩, rfl⟩
instance : TSc Try.prog 91 := ⟨_, Try.underlying91, rfl⟩
instance : TSl Try.prog 91 5 := ⟨Try.underlying91⟩
instance : TIf Try.prog 91 (.slice none 0 0) [(.slice none 0 0)] 1 24 := ⟨⟨Try.t91, rfl, rfl, rfl, rfl⟩, rfl⟩
instance : TSc Try.prog 92 := ⟨_, Try.underlying92, rfl⟩
instance : TIf Try.prog 92 .nilFunc [.nilFunc] 1 8 := ⟨⟨Try.t92, rfl, rfl, rfl, rfl⟩, rfl⟩
instance : TSc Try.prog 94 := ⟨_, Try.underlying94, rfl⟩
instance : TIf Try.prog 94 .nilFunc [.nilFunc] 1 8 := ⟨⟨Try.t94, rfl, rfl, rfl, rfl⟩, rfl⟩
instance : TSc Try.prog 96 := ⟨_, Try.underlying96, rfl⟩
instance : TIf Try.prog 96 .nilFunc [.nilFunc] 1 8 := ⟨⟨Try.t96, rfl, rfl, rfl, rfl⟩, rfl⟩
instance : TSc Try.prog 97 := ⟨_, Try.underlying97, rfl⟩
instance : TIf Try.prog 97 .nilFunc [.nilFunc] 1 8 := ⟨⟨Try.t97, rfl, rfl, rfl, rfl⟩, rfl⟩
instance : TSc Try.prog 98 := ⟨_, Try.underlying98, rfl⟩
instance : TIf Try.prog 98 .nilFunc [.nilFunc] 1 8 := ⟨⟨Try.t98, rfl, rfl, rfl, rfl⟩, rfl⟩
instance : TSc Try.prog 99 := ⟨_, Try.underlying99, rfl⟩
instance : TIf Try.prog 99 .nilFunc [.nilFunc] 1 8 := ⟨⟨Try.t99, rfl, rfl, rfl, rfl⟩, rfl⟩
instance : TSc Try.prog 100 := ⟨_, Try.underlying100, rfl⟩
instance : TIf Try.prog 100 .nilFunc [.nilFunc] 1 8 := ⟨⟨Try.t100, rfl, rfl, rfl, rfl⟩, rfl⟩
instance : TSc Try.prog 101 := ⟨_, Try.underlying101, rfl⟩
instance : TIf Try.prog 101 .nilFunc [.nilFunc] 1 8 := ⟨⟨Try.t101, rfl, rfl, rfl, rfl⟩, rfl⟩
instance : TSc Try.prog 102 := ⟨_, Try.underlying102, rfl⟩
instance : TSl Try.prog 102 113 := ⟨Try.underlying102⟩
instance : TIf Try.prog 102 (.slice none 0 0) [(.slice none 0 0)] 1 24 := ⟨⟨Try.t102, rfl, rfl, rfl, rfl⟩, rfl⟩
instance : TSt Try.prog 103 [(3, 0), (3, 1)] := ⟨⟨_, Try.underlying103, rfl⟩, List.forall_mem_cons.2 ⟨⟨Try.t3, rfl, by decide⟩, List.forall_mem_cons.2 ⟨⟨Try.t3, rfl, by decide⟩, nofun⟩⟩⟩
instance : TIf Try.prog 103 (.agg #[(.int .i64 0), (.int .i64 0)]) [(.int .i64 0), (.int .i64 0)] 2 16 := ⟨⟨Try.t103, rfl, rfl, rfl, rfl⟩, rfl⟩
instance : TSt Try.prog 104 [(3, 0), (3, 1)] := ⟨⟨_, Try.underlying104, rfl⟩, List.forall_mem_cons.2 ⟨⟨Try.t3, rfl, by decide⟩, List.forall_mem_cons.2 ⟨⟨Try.t3, rfl, by decide⟩, nofun⟩⟩⟩
instance : TIf Try.prog 104 (.agg #[(.int .i64 0), (.int .i64 0)]) [(.int .i64 0), (.int .i64 0)] 2 16 := ⟨⟨Try.t104, rfl, rfl, rfl, rfl⟩, rfl⟩
instance : TSc Try.prog 105 := ⟨_, Try.underlying105, rfl⟩
instance : TSl Try.prog 105 104 := ⟨Try.underlying105⟩
instance : TIf Try.prog 105 (.slice none 0 0) [(.slice none 0 0)] 1 24 := ⟨⟨Try.t105, rfl, rfl, rfl, rfl⟩, rfl⟩
instance : TSt Try.prog 106 [(28, 0), (102, 1), (105, 2)] := ⟨⟨_, Try.underlying106, rfl⟩, List.forall_mem_cons.2 ⟨⟨Try.t28, rfl, by decide⟩, List.forall_mem_cons.2 ⟨⟨Try.t102, rfl, by decide⟩, List.forall_mem_cons.2 ⟨⟨Try.t105, rfl, by decide⟩, nofun⟩⟩⟩⟩
instance : TIf Try.prog 106 (.agg #[(.slice none 0 0), (.slice none 0 0), (.slice none 0 0)]) [(.slice none 0 0), (.slice none 0 0), (.slice none 0 0)] 3 72 := ⟨⟨Try.t106, rfl, rfl, rfl, rfl⟩, rfl⟩
instance : TSt Try.prog 107 [(28, 0), (102, 1), (105, 2)] := ⟨⟨_, Try.underlying107, rfl⟩, List.forall_mem_cons.2 ⟨⟨Try.t28, rfl, by decide⟩, List.forall_mem_cons.2 ⟨⟨Try.t102, rfl, by decide⟩, List.forall_mem_cons.2 ⟨⟨Try.t105, rfl, by decide⟩, nofun⟩⟩⟩⟩
instance : TIf Try.prog 107 (.agg #[(.slice none 0 0), (.slice none 0 0), (.slice none 0 0)]) [(.slice none 0 0), (.slice none 0 0), (.slice none 0 0)] 3 72 := ⟨⟨Try.t107, rfl, rfl, rfl, rfl⟩, rfl⟩
instance : TSt Try.prog 108 [(81, 0), (3, 1), (91, 2), (44, 3), (3, 4)] := ⟨⟨_, Try.underlying108, rfl⟩, List.forall_mem_cons.2 ⟨⟨Try.t81, rfl, by decide⟩, List.forall_mem_cons.2 ⟨⟨Try.t3, rfl, by decide⟩, List.forall_mem_cons.2 ⟨⟨Try.t91, rfl, by decide⟩, List.forall_mem_cons.2 ⟨⟨Try.t44, rfl, by decide⟩, List.forall_mem_cons.2 ⟨⟨Try.t3, rfl, by decide⟩, nofun⟩⟩⟩⟩⟩⟩
instance : TIf Try.prog 108 (.agg #[(.pointer none), (.int .i64 0), (.slice none 0 0), (.slice none 0 0), (.int .i64 0)]) [(.pointer none), (.int .i64 0), (.slice none 0 0), (.slice none 0 0), (.int .i64 0)] 5 72 := ⟨⟨Try.t108, rfl, rfl, rfl, rfl⟩, rfl⟩
instance : TSt Try.prog 109 [(81, 0), (3, 1), (91, 2), (44, 3), (3, 4)] := ⟨⟨_, Try.underlying109, rfl⟩, List.forall_mem_cons.2 ⟨⟨Try.t81, rfl, by decide⟩, List.forall_mem_cons.2 ⟨⟨Try.t3, rfl, by decide⟩, List.forall_mem_cons.2 ⟨⟨Try.t91, rfl, by decide⟩, List.forall_mem_cons.2 ⟨⟨Try.t44, rfl, by decide⟩, List.forall_mem_cons.2 ⟨⟨Try.t3, rfl, by decide⟩, nofun⟩⟩⟩⟩⟩⟩
instance : TIf Try.prog 109 (.agg #[(.pointer none), (.int .i64 0), (.slice none 0 0), (.slice none 0 0), (.int .i64 0)]) [(.pointer none), (.int .i64 0), (.slice none 0 0), (.slice none 0 0), (.int .i64 0)] 5 72 := ⟨⟨Try.t109, rfl, rfl, rfl, rfl⟩, rfl⟩
instance : TSc Try.prog 110 := ⟨_, Try.underlying110, rfl⟩
instance : TIf Try.prog 110 .nilFunc [.nilFunc] 1 8 := ⟨⟨Try.t110, rfl, rfl, rfl, rfl⟩, rfl⟩
instance : TSc Try.prog 111 := ⟨_, Try.underlying111, rfl⟩
instance : TIf Try.prog 111 .nilFunc [.nilFunc] 1 8 := ⟨⟨Try.t111, rfl, rfl, rfl, rfl⟩, rfl⟩
instance : TSt Try.prog 112 [(3, 0), (3, 1)] := ⟨⟨_, Try.underlying112, rfl⟩, List.forall_mem_cons.2 ⟨⟨Try.t3, rfl, by decide⟩, List.forall_mem_cons.2 ⟨⟨Try.t3, rfl, by decide⟩, nofun⟩⟩⟩
instance : TIf Try.prog 112 (.agg #[(.int .i64 0), (.int .i64 0)]) [(.int .i64 0), (.int .i64 0)] 2 16 := ⟨⟨Try.t112, rfl, rfl, rfl, rfl⟩, rfl⟩
instance : TSt Try.prog 113 [(3, 0), (3, 1)] := ⟨⟨_, Try.underlying113, rfl⟩, List.forall_mem_cons.2 ⟨⟨Try.t3, rfl, by decide⟩, List.forall_mem_cons.2 ⟨⟨Try.t3, rfl, by decide⟩, nofun⟩⟩⟩
instance : TIf Try.prog 113 (.agg #[(.int .i64 0), (.int .i64 0)]) [(.int .i64 0), (.int .i64 0)] 2 16 := ⟨⟨Try.t113, rfl, rfl, rfl, rfl⟩, rfl⟩
instance : TSc Try.prog 114 := ⟨_, Try.underlying114, rfl⟩
instance : TIf Try.prog 114 .nilFunc [.nilFunc] 1 8 := ⟨⟨Try.t114, rfl, rfl, rfl, rfl⟩, rfl⟩
instance : TSc Try.prog 115 := ⟨_, Try.underlying115, rfl⟩
instance : TIf Try.prog 115 .nilFunc [.nilFunc] 1 8 := ⟨⟨Try.t115, rfl, rfl, rfl, rfl⟩, rfl⟩
instance : TSc Try.prog 116 := ⟨_, Try.underlying116, rfl⟩
instance : TIf Try.prog 116 .nilFunc [.nilFunc] 1 8 := ⟨⟨Try.t116, rfl, rfl, rfl, rfl⟩, rfl⟩
instance : TSc Try.prog 117 := ⟨_, Try.underlying117, rfl⟩
instance : TIf Try.prog 117 .nilFunc [.nilFunc] 1 8 := ⟨⟨Try.t117, rfl, rfl, rfl, rfl⟩, rfl⟩
instance : TSc Try.prog 118 := ⟨_, Try.underlying118, rfl⟩
instance : TIf Try.prog 118 .nilFunc [.nilFunc] 1 8 := ⟨⟨Try.t118, rfl, rfl, rfl, rfl⟩, rfl⟩
instance : TSc Try.prog 119 := ⟨_, Try.underlying119, rfl⟩
instance : TIf Try.prog 119 .nilFunc [.nilFunc] 1 8 := ⟨⟨Try.t119, rfl, rfl, rfl, rfl⟩, rfl⟩
instance : TSc Try.prog 121 := ⟨_, Try.underlying121, rfl⟩
instance : TIf Try.prog 121 .nilFunc [.nilFunc] 1 8 := ⟨⟨Try.t121, rfl, rfl, rfl, rfl⟩, rfl⟩
instance : TSc Try.prog 122 := ⟨_, Try.underlying122, rfl⟩
instance : TIf Try.prog 122 .nilFunc [.nilFunc] 1 8 := ⟨⟨Try.t122, rfl, rfl, rfl, rfl⟩, rfl⟩
instance : TSc Try.prog 123 := ⟨_, Try.underlying123, rfl⟩
instance : TIf Try.prog 123 .nilFunc [.nilFunc] 1 8 := ⟨⟨Try.t123, rfl, rfl, rfl, rfl⟩, rfl⟩
instance : TSc Try.prog 124 := ⟨_, Try.underlying124, rfl⟩
instance : TIf Try.prog 124 .nilFunc [.nilFunc] 1 8 := ⟨⟨Try.t124, rfl, rfl, rfl, rfl⟩, rfl⟩
instance : TSc Try.prog 125 := ⟨_, Try.underlying125, rfl⟩
instance : TIf Try.prog 125 .nilFunc [.nilFunc] 1 8 := ⟨⟨Try.t125, rfl, rfl, rfl, rfl⟩, rfl⟩
instance : TSc Try.prog 126 := ⟨_, Try.underlying126, rfl⟩
instance : TIf Try.prog 126 .nilFunc [.nilFunc] 1 8 := ⟨⟨Try.t126, rfl, rfl, rfl, rfl⟩, rfl⟩
instance : TSc Try.prog 127 := ⟨_, Try.underlying127, rfl⟩
instance : TIf Try.prog 127 .nilFunc [.nilFunc] 1 8 := ⟨⟨Try.t127, rfl, rfl, rfl, rfl⟩, rfl⟩
instance : TSc Try.prog 128 := ⟨_, Try.underlying128, rfl⟩
instance : TIf Try.prog 128 .nilFunc [.nilFunc] 1 8 := ⟨⟨Try.t128, rfl, rfl, rfl, rfl⟩, rfl⟩
instance : TSc Try.prog 129 := ⟨_, Try.underlying129, rfl⟩
instance : TIf Try.prog 129 .nilFunc [.nilFunc] 1 8 := ⟨⟨Try.t129, rfl, rfl, rfl, rfl⟩, rfl⟩
instance : TSc Try.prog 130 := ⟨_, Try.underlying130, rfl⟩
instance : TIf Try.prog 130 .nilFunc [.nilFunc] 1 8 := ⟨⟨Try.t130, rfl, rfl, rfl, rfl⟩, rfl⟩
instance : TSc Try.prog 131 := ⟨_, Try.underlying131, rfl⟩
instance : TIf Try.prog 131 .nilFunc [.nilFunc] 1 8 := ⟨⟨Try.t131, rfl, rfl, rfl, rfl⟩, rfl⟩
instance : TSc Try.prog 132 := ⟨_, Try.underlying132, rfl⟩
instance : TIf Try.prog 132 .nilFunc [.nilFunc] 1 8 := ⟨⟨Try.t132, rfl, rfl, rfl, rfl⟩, rfl⟩
instance : TSc Try.prog 133 := ⟨_, Try.underlying133, rfl⟩
instance : TIf Try.prog 133 .nilFunc [.nilFunc] 1 8 := ⟨⟨Try.t133, rfl, rfl, rfl, rfl⟩, rfl⟩
instance : TSt Try.prog 134 [(17, 0), (17, 1), (17, 2), (9, 3)] := ⟨⟨_, Try.underlying134, rfl⟩, List.forall_mem_cons.2 ⟨⟨Try.t17, rfl, by decide⟩, List.forall_mem_cons.2 ⟨⟨Try.t17, rfl, by decide⟩, List.forall_mem_cons.2 ⟨⟨Try.t17, rfl, by decide⟩, List.forall_mem_cons.2 ⟨⟨Try.t9, rfl, by decide⟩, nofun⟩⟩⟩⟩⟩
instance : TIf Try.prog 134 (.agg #[(.pointer none), (.pointer none), (.pointer none), (.string ByteArray.empty)]) [(.pointer none), (.pointer none), (.pointer none), (.string ByteArray.empty)] 4 40 := ⟨⟨Try.t134, rfl, rfl, rfl, rfl⟩, rfl⟩
instance : TSt Try.prog 135 [(17, 0), (17, 1), (17, 2), (9, 3)] := ⟨⟨_, Try.underlying135, rfl⟩, List.forall_mem_cons.2 ⟨⟨Try.t17, rfl, by decide⟩, List.forall_mem_cons.2 ⟨⟨Try.t17, rfl, by decide⟩, List.forall_mem_cons.2 ⟨⟨Try.t17, rfl, by decide⟩, List.forall_mem_cons.2 ⟨⟨Try.t9, rfl, by decide⟩, nofun⟩⟩⟩⟩⟩
instance : TIf Try.prog 135 (.agg #[(.pointer none), (.pointer none), (.pointer none), (.string ByteArray.empty)]) [(.pointer none), (.pointer none), (.pointer none), (.string ByteArray.empty)] 4 40 := ⟨⟨Try.t135, rfl, rfl, rfl, rfl⟩, rfl⟩
instance : TIf Try.prog 136 (.agg #[]) [] 0 0 := ⟨⟨Try.t136, rfl, rfl, rfl, rfl⟩, rfl⟩
instance : TIf Try.prog 137 (.agg #[]) [] 0 0 := ⟨⟨Try.t137, rfl, rfl, rfl, rfl⟩, rfl⟩
instance : TIf Try.prog 138 (.agg #[]) [] 0 0 := ⟨⟨Try.t138, rfl, rfl, rfl, rfl⟩, rfl⟩
instance : TSc Try.prog 139 := ⟨_, Try.underlying139, rfl⟩
instance : TIn Try.prog 139 .u32 := ⟨Try.underlying139⟩
instance : TIf Try.prog 139 (.int .u32 0) [(.int .u32 0)] 1 4 := ⟨⟨Try.t139, rfl, rfl, rfl, rfl⟩, rfl⟩
instance : TSc Try.prog 140 := ⟨_, Try.underlying140, rfl⟩
instance : TIn Try.prog 140 .u8 := ⟨Try.underlying140⟩
instance : TIf Try.prog 140 (.int .u8 0) [(.int .u8 0)] 1 1 := ⟨⟨Try.t140, rfl, rfl, rfl, rfl⟩, rfl⟩
instance : TSc Try.prog 141 := ⟨_, Try.underlying141, rfl⟩
instance : TIn Try.prog 141 .u8 := ⟨Try.underlying141⟩
instance : TIf Try.prog 141 (.int .u8 0) [(.int .u8 0)] 1 1 := ⟨⟨Try.t141, rfl, rfl, rfl, rfl⟩, rfl⟩
instance : TSc Try.prog 142 := ⟨_, Try.underlying142, rfl⟩
instance : TIf Try.prog 142 .nilFunc [.nilFunc] 1 8 := ⟨⟨Try.t142, rfl, rfl, rfl, rfl⟩, rfl⟩
instance : TSc Try.prog 143 := ⟨_, Try.underlying143, rfl⟩
instance : TPt Try.prog 143 := ⟨by unfold Program.pointee; rw [Try.underlying143]⟩
instance : TIf Try.prog 143 (.pointer none) [(.pointer none)] 1 8 := ⟨⟨Try.t143, rfl, rfl, rfl, rfl⟩, rfl⟩
instance : TSc Try.prog 144 := ⟨_, Try.underlying144, rfl⟩
instance : TIn Try.prog 144 .i32 := ⟨Try.underlying144⟩
instance : TIf Try.prog 144 (.int .i32 0) [(.int .i32 0)] 1 4 := ⟨⟨Try.t144, rfl, rfl, rfl, rfl⟩, rfl⟩
instance : TSc Try.prog 145 := ⟨_, Try.underlying145, rfl⟩
instance : TIn Try.prog 145 .i32 := ⟨Try.underlying145⟩
instance : TIf Try.prog 145 (.int .i32 0) [(.int .i32 0)] 1 4 := ⟨⟨Try.t145, rfl, rfl, rfl, rfl⟩, rfl⟩
instance : TSt Try.prog 146 [(12, 0), (12, 1), (139, 2), (140, 3), (5, 4), (5, 5), (141, 6), (142, 7), (143, 8), (144, 9), (145, 10)] := ⟨⟨_, Try.underlying146, rfl⟩, List.forall_mem_cons.2 ⟨⟨Try.t12, rfl, by decide⟩, List.forall_mem_cons.2 ⟨⟨Try.t12, rfl, by decide⟩, List.forall_mem_cons.2 ⟨⟨Try.t139, rfl, by decide⟩, List.forall_mem_cons.2 ⟨⟨Try.t140, rfl, by decide⟩, List.forall_mem_cons.2 ⟨⟨Try.t5, rfl, by decide⟩, List.forall_mem_cons.2 ⟨⟨Try.t5, rfl, by decide⟩, List.forall_mem_cons.2 ⟨⟨Try.t141, rfl, by decide⟩, List.forall_mem_cons.2 ⟨⟨Try.t142, rfl, by decide⟩, List.forall_mem_cons.2 ⟨⟨Try.t143, rfl, by decide⟩, List.forall_mem_cons.2 ⟨⟨Try.t144, rfl, by decide⟩, List.forall_mem_cons.2 ⟨⟨Try.t145, rfl, by decide⟩, nofun⟩⟩⟩⟩⟩⟩⟩⟩⟩⟩⟩⟩
instance : TIf Try.prog 146 (.agg #[(.int .u64 0), (.int .u64 0), (.int .u32 0), (.int .u8 0), (.int .u8 0), (.int .u8 0), (.int .u8 0), .nilFunc, (.pointer none), (.int .i32 0), (.int .i32 0)]) [(.int .u64 0), (.int .u64 0), (.int .u32 0), (.int .u8 0), (.int .u8 0), (.int .u8 0), (.int .u8 0), .nilFunc, (.pointer none), (.int .i32 0), (.int .i32 0)] 11 48 := ⟨⟨Try.t146, rfl, rfl, rfl, rfl⟩, rfl⟩
instance : TSt Try.prog 147 [(12, 0), (12, 1), (139, 2), (140, 3), (5, 4), (5, 5), (141, 6), (142, 7), (143, 8), (144, 9), (145, 10)] := ⟨⟨_, Try.underlying147, rfl⟩, List.forall_mem_cons.2 ⟨⟨Try.t12, rfl, by decide⟩, List.forall_mem_cons.2 ⟨⟨Try.t12, rfl, by decide⟩, List.forall_mem_cons.2 ⟨⟨Try.t139, rfl, by decide⟩, List.forall_mem_cons.2 ⟨⟨Try.t140, rfl, by decide⟩, List.forall_mem_cons.2 ⟨⟨Try.t5, rfl, by decide⟩, List.forall_mem_cons.2 ⟨⟨Try.t5, rfl, by decide⟩, List.forall_mem_cons.2 ⟨⟨Try.t141, rfl, by decide⟩, List.forall_mem_cons.2 ⟨⟨Try.t142, rfl, by decide⟩, List.forall_mem_cons.2 ⟨⟨Try.t143, rfl, by decide⟩, List.forall_mem_cons.2 ⟨⟨Try.t144, rfl, by decide⟩, List.forall_mem_cons.2 ⟨⟨Try.t145, rfl, by decide⟩, nofun⟩⟩⟩⟩⟩⟩⟩⟩⟩⟩⟩⟩
instance : TIf Try.prog 147 (.agg #[(.int .u64 0), (.int .u64 0), (.int .u32 0), (.int .u8 0), (.int .u8 0), (.int .u8 0), (.int .u8 0), .nilFunc, (.pointer none), (.int .i32 0), (.int .i32 0)]) [(.int .u64 0), (.int .u64 0), (.int .u32 0), (.int .u8 0), (.int .u8 0), (.int .u8 0), (.int .u8 0), .nilFunc, (.pointer none), (.int .i32 0), (.int .i32 0)] 11 48 := ⟨⟨Try.t147, rfl, rfl, rfl, rfl⟩, rfl⟩
instance : FnB Try.prog 2 := ⟨_, Try.func2, rfl, by kernel_rfl⟩
instance : FnB Try.prog 3 := ⟨_, Try.func3, rfl, by kernel_rfl⟩
instance : FnB Try.prog 4 := ⟨_, Try.func4, rfl, by kernel_rfl⟩
instance : FnB Try.prog 5 := ⟨_, Try.func5, rfl, by kernel_rfl⟩
instance : FnB Try.prog 6 := ⟨_, Try.func6, rfl, by kernel_rfl⟩
instance : FnB Try.prog 7 := ⟨_, Try.func7, rfl, by kernel_rfl⟩
instance : FnB Try.prog 8 := ⟨_, Try.func8, rfl, by kernel_rfl⟩
instance : FnB Try.prog 9 := ⟨_, Try.func9, rfl, by kernel_rfl⟩
instance : FnB Try.prog 10 := ⟨_, Try.func10, rfl, by kernel_rfl⟩
instance : FnB Try.prog 11 := ⟨_, Try.func11, rfl, by kernel_rfl⟩
instance : FnB Try.prog 12 := ⟨_, Try.func12, rfl, by kernel_rfl⟩
instance : FnB Try.prog 13 := ⟨_, Try.func13, rfl, by kernel_rfl⟩
instance : FnB Try.prog 14 := ⟨_, Try.func14, rfl, by kernel_rfl⟩
instance : FnB Try.prog 15 := ⟨_, Try.func15, rfl, by kernel_rfl⟩
instance : FnB Try.prog 16 := ⟨_, Try.func16, rfl, by kernel_rfl⟩
instance : FnB Try.prog 17 := ⟨_, Try.func17, rfl, by kernel_rfl⟩
instance : FnB Try.prog 18 := ⟨_, Try.func18, rfl, by kernel_rfl⟩
instance : FnB Try.prog 19 := ⟨_, Try.func19, rfl, by kernel_rfl⟩
instance : FnB Try.prog 20 := ⟨_, Try.func20, rfl, by kernel_rfl⟩
instance : FnB Try.prog 21 := ⟨_, Try.func21, rfl, by kernel_rfl⟩
instance : FnB Try.prog 22 := ⟨_, Try.func22, rfl, by kernel_rfl⟩
instance : FnB Try.prog 23 := ⟨_, Try.func23, rfl, by kernel_rfl⟩
instance : FnB Try.prog 24 := ⟨_, Try.func24, rfl, by kernel_rfl⟩
instance : FnB Try.prog 25 := ⟨_, Try.func25, rfl, by kernel_rfl⟩
instance : FnB Try.prog 26 := ⟨_, Try.func26, rfl, by kernel_rfl⟩
instance : FnB Try.prog 27 := ⟨_, Try.func27, rfl, by kernel_rfl⟩
instance : FnB Try.prog 28 := ⟨_, Try.func28, rfl, by kernel_rfl⟩
instance : FnB Try.prog 29 := ⟨_, Try.func29, rfl, by kernel_rfl⟩
instance : FnB Try.prog 30 := ⟨_, Try.func30, rfl, by kernel_rfl⟩
instance : FnB Try.prog 31 := ⟨_, Try.func31, rfl, by kernel_rfl⟩
instance : FnB Try.prog 32 := ⟨_, Try.func32, rfl, by kernel_rfl⟩
instance : FnB Try.prog 33 := ⟨_, Try.func33, rfl, by kernel_rfl⟩
instance : FnB Try.prog 34 := ⟨_, Try.func34, rfl, by kernel_rfl⟩
instance : FnB Try.prog 35 := ⟨_, Try.func35, rfl, by kernel_rfl⟩
instance : FnB Try.prog 36 := ⟨_, Try.func36, rfl, by kernel_rfl⟩
instance : FnB Try.prog 37 := ⟨_, Try.func37, rfl, by kernel_rfl⟩
instance : FnB Try.prog 38 := ⟨_, Try.func38, rfl, by kernel_rfl⟩
instance : FnB Try.prog 39 := ⟨_, Try.func39, rfl, by kernel_rfl⟩
instance : FnB Try.prog 40 := ⟨_, Try.func40, rfl, by kernel_rfl⟩
instance : FnB Try.prog 41 := ⟨_, Try.func41, rfl, by kernel_rfl⟩
instance : FnB Try.prog 42 := ⟨_, Try.func42, rfl, by kernel_rfl⟩
instance : FnB Try.prog 43 := ⟨_, Try.func43, rfl, by kernel_rfl⟩
instance : FnB Try.prog 44 := ⟨_, Try.func44, rfl, by kernel_rfl⟩
instance : FnB Try.prog 45 := ⟨_, Try.func45, rfl, by kernel_rfl⟩
instance : FnB Try.prog 46 := ⟨_, Try.func46, rfl, by kernel_rfl⟩
instance : FnB Try.prog 47 := ⟨_, Try.func47, rfl, by kernel_rfl⟩
instance : FnB Try.prog 48 := ⟨_, Try.func48, rfl, by kernel_rfl⟩
instance : FnB Try.prog 49 := ⟨_, Try.func49, rfl, by kernel_rfl⟩
instance : FnB Try.prog 50 := ⟨_, Try.func50, rfl, by kernel_rfl⟩
instance : FnB Try.prog 51 := ⟨_, Try.func51, rfl, by kernel_rfl⟩
instance : FnB Try.prog 52 := ⟨_, Try.func52, rfl, by kernel_rfl⟩
instance : FnB Try.prog 53 := ⟨_, Try.func53, rfl, by kernel_rfl⟩
instance : FnB Try.prog 54 := ⟨_, Try.func54, rfl, by kernel_rfl⟩
instance : FnB Try.prog 55 := ⟨_, Try.func55, rfl, by kernel_rfl⟩
instance : FnB Try.prog 56 := ⟨_, Try.func56, rfl, by kernel_rfl⟩
instance : FnB Try.prog 57 := ⟨_, Try.func57, rfl, by kernel_rfl⟩
instance : FnB Try.prog 58 := ⟨_, Try.func58, rfl, by kernel_rfl⟩
instance : FnB Try.prog 59 := ⟨_, Try.func59, rfl, by kernel_rfl⟩
instance : FnB Try.prog 60 := ⟨_, Try.func60, rfl, by kernel_rfl⟩
instance : FnB Try.prog 61 := ⟨_, Try.func61, rfl, by kernel_rfl⟩
instance : FnB Try.prog 62 := ⟨_, Try.func62, rfl, by kernel_rfl⟩
instance : FnB Try.prog 63 := ⟨_, Try.func63, rfl, by kernel_rfl⟩
instance : FnB Try.prog 64 := ⟨_, Try.func64, rfl, by kernel_rfl⟩
instance : FnB Try.prog 65 := ⟨_, Try.func65, rfl, by kernel_rfl⟩
instance : FnB Try.prog 66 := ⟨_, Try.func66, rfl, by kernel_rfl⟩
instance : FnB Try.prog 67 := ⟨_, Try.func67, rfl, by kernel_rfl⟩
instance : FnB Try.prog 68 := ⟨_, Try.func68, rfl, by kernel_rfl⟩
instance : FnB Try.prog 69 := ⟨_, Try.func69, rfl, by kernel_rfl⟩
instance : FnB Try.prog 70 := ⟨_, Try.func70, rfl, by kernel_rfl⟩
instance : FnB Try.prog 71 := ⟨_, Try.func71, rfl, by kernel_rfl⟩
instance : FnB Try.prog 72 := ⟨_, Try.func72, rfl, by kernel_rfl⟩
instance : FnB Try.prog 73 := ⟨_, Try.func73, rfl, by kernel_rfl⟩
instance : FnB Try.prog 74 := ⟨_, Try.func74, rfl, by kernel_rfl⟩
instance : FnB Try.prog 75 := ⟨_, Try.func75, rfl, by kernel_rfl⟩
instance : FnB Try.prog 76 := ⟨_, Try.func76, rfl, by kernel_rfl⟩
instance : FnB Try.prog 77 := ⟨_, Try.func77, rfl, by kernel_rfl⟩
instance : FnB Try.prog 78 := ⟨_, Try.func78, rfl, by kernel_rfl⟩
instance : FnB Try.prog 79 := ⟨_, Try.func79, rfl, by kernel_rfl⟩
instance : FnB Try.prog 80 := ⟨_, Try.func80, rfl, by kernel_rfl⟩
instance : FnB Try.prog 81 := ⟨_, Try.func81, rfl, by kernel_rfl⟩
instance : FnB Try.prog 82 := ⟨_, Try.func82, rfl, by kernel_rfl⟩
instance : FnB Try.prog 83 := ⟨_, Try.func83, rfl, by kernel_rfl⟩
instance : FnB Try.prog 84 := ⟨_, Try.func84, rfl, by kernel_rfl⟩
instance : FnB Try.prog 85 := ⟨_, Try.func85, rfl, by kernel_rfl⟩
instance : FnB Try.prog 86 := ⟨_, Try.func86, rfl, by kernel_rfl⟩
instance : FnB Try.prog 87 := ⟨_, Try.func87, rfl, by kernel_rfl⟩
instance : FnB Try.prog 88 := ⟨_, Try.func88, rfl, by kernel_rfl⟩
instance : FnB Try.prog 89 := ⟨_, Try.func89, rfl, by kernel_rfl⟩
instance : FnB Try.prog 90 := ⟨_, Try.func90, rfl, by kernel_rfl⟩
instance : FnB Try.prog 91 := ⟨_, Try.func91, rfl, by kernel_rfl⟩
instance : FnB Try.prog 92 := ⟨_, Try.func92, rfl, by kernel_rfl⟩
instance : FnB Try.prog 93 := ⟨_, Try.func93, rfl, by kernel_rfl⟩
instance : FnB Try.prog 94 := ⟨_, Try.func94, rfl, by kernel_rfl⟩
instance : FnB Try.prog 95 := ⟨_, Try.func95, rfl, by kernel_rfl⟩
instance : FnB Try.prog 96 := ⟨_, Try.func96, rfl, by kernel_rfl⟩
instance : FnB Try.prog 97 := ⟨_, Try.func97, rfl, by kernel_rfl⟩
instance : FnB Try.prog 98 := ⟨_, Try.func98, rfl, by kernel_rfl⟩
instance : FnB Try.prog 99 := ⟨_, Try.func99, rfl, by kernel_rfl⟩
instance : FnB Try.prog 101 := ⟨_, Try.func101, rfl, by kernel_rfl⟩
instance : FnB Try.prog 103 := ⟨_, Try.func103, rfl, by kernel_rfl⟩
instance : FnB Try.prog 104 := ⟨_, Try.func104, rfl, by kernel_rfl⟩
instance : FnB Try.prog 105 := ⟨_, Try.func105, rfl, by kernel_rfl⟩
instance : FnB Try.prog 106 := ⟨_, Try.func106, rfl, by kernel_rfl⟩
instance : FnB Try.prog 107 := ⟨_, Try.func107, rfl, by kernel_rfl⟩
theorem mixed : Try.prog.follows .mixedOrders = true := by kernel_rfl
end Go.Proofs.Ytdfhajdejlhamaa
namespace Go.Fw
open Go Go.ChangeShapes Go.WideShapes Go.ChangeAt Go.RowKit Go.Deep
set_option linter.unusedVariables false

theorem HS.pick {w0 w : World} {M : Nat → Prop} {H : List It} {it : It} (h : HS w0 M H w) (hm : it ∈ H) : HS w0 M [it] w :=
  let ⟨_, p⟩ := mem_split hm
  (h.perm p).head
/-- what a law does for its caller -/
def LawR (w0 : World) (v : Value) (w : World) : Prop := v = .bool true ∧ Kp w0 noM w
theorem Kp.below {w0 w : World} (h : Kp w0 noM w) : Below w0.heap.size w0 w := ⟨h.os, h.tape, h.output, h.size, fun k hk => h.block k hk id⟩
section
variable {H : Type} {enc : TypeId × Value → H} {P : Program}
theorem trodAll_stays (hl : laidOutB P = true) {W W' : World} (hb : Below W.heap.size W W') : ∀ {ts : List TypeId} {vs : List Value} {ds : List (DataW H)} {ps : List MemPlace},
    (∀ t ∈ ts, P.readableRec t = true ∧ t < P.types.size) → DataW.TrodAll enc P W 0 (fun _ => true) true ts vs ds ps → (∀ x ∈ ps, x.block < W.heap.size) →
    DataW.TrodAll enc P W' 0 (fun b => decide (b < W.heap.size)) true ts vs ds ps
  | [], vs, ds, ps, _, h, _ => by
    obtain ⟨rfl, rfl, rfl⟩ := trodAll_nil h
    exact trodAll_mk0
  | t :: ts, vs, ds, ps, hr, h, hlt => by
    obtain ⟨v, vs1, d, ds1, a, b, rfl, rfl, rfl, h1, h2⟩ := trodAll_cons h
    have hlt1 : ∀ x ∈ a, x.block < W.heap.size := fun x hx => hlt x (List.mem_append.2 (.inl hx))
    have hlt2 : ∀ x ∈ b, x.block < W.heap.size := fun x hx => hlt x (List.mem_append.2 (.inr hx))
    have ht := hr t (List.mem_cons_self)
    exact trodAll_cons_mk (Below.trod hl ht.1 ht.2 h1 hb hlt1) (trodAll_stays hl hb (fun t ht => hr t (List.mem_cons_of_mem _ ht)) h2 hlt2)
theorem trodAll_len {W : World} {base : Nat} {spare : Nat → Bool} {held : Bool} : ∀ {ts : List TypeId} {vs : List Value} {ds : List (DataW H)} {ps : List MemPlace},
    DataW.TrodAll enc P W base spare held ts vs ds ps → ds.length = ts.length
  | [], vs, ds, ps, h => by
    obtain ⟨rfl, rfl, rfl⟩ := trodAll_nil h
    rfl
  | t :: ts, vs, ds, ps, h => by
    obtain ⟨v, vs1, d, ds1, a, b, rfl, rfl, rfl, h1, h2⟩ := trodAll_cons h
    simp [trodAll_len h2]
theorem law_post {f : Func} {s : ChangeSpec} {W W' : World} {args : Array Value} {ds gs : List (DataW H)} {before : List MemPlace} {tb : TypeId}
    (hl : laidOutB P = true) (hrd : f.params.toList.all (fun t => P.readableRec t && decide (t < P.types.size)) = true) (hv : s.vars = [])
    (hs : ∀ ds : List (DataW H), ds.length = f.params.size → (s.fn H (ds ++ [])).results = [.lit (.bool true)] ∧ (s.fn H (ds ++ [])).args = ds ∧ (s.fn H (ds ++ [])).vars = [])
    (hrt : f.resultTypes = #[tb]) (hb : P.underlying tb = some .bool)
    (hW : DataW.Whole enc P f.params.toList s.vars false W args.toList ds gs before) (hk : Kp W noM W') :
    s.post enc P f false true false false W args (.bool true) W' := by
  have hW' := hW
  obtain ⟨p, q, hA, hV, rfl, hfz, hnd⟩ := hW
  rw [hv] at hV
  have hg : gs = [] ∧ q = [] := by
    cases gs with
    | nil => exact ⟨rfl, hV⟩
    | cons g gs => exact hV.elim
  obtain ⟨rfl, rfl⟩ := hg
  have hlen := trodAll_len hA
  rw [Array.length_toList] at hlen
  obtain ⟨h1, h2, h3⟩ := hs ds hlen
  have hlt : ∀ x ∈ p, x.block < W.heap.size := fun x hx => by simpa using hW'.lt x (List.mem_append.2 (.inl hx))
  refine ⟨ds, [], p ++ [], [], p, [], hW', ?_, ?_, ?_, (Kp.below hk).frame _, fun h => by cases h⟩
  · rw [h1, hrt]
    exact trodAll_cons_mk (shut_bool hb _) trodAll_mk0
  · rw [h2]
    refine trodAll_stays hl (Kp.below hk) (fun t ht => ?_) hA hlt
    have := List.all_eq_true.1 hrd t ht
    simpa using this
  · rw [h3, hv]; rfl

theorem law_lifted {C : Checked} {os : Os} {f : FuncId} {fn : Func} {s : ChangeSpec} {conds : List PathCond} {tb : TypeId}
    (own : ownKnob C.prog.godebug = none) (started : os.Started) (noInit : C.prog.inits.idxOf? f = none) (hfn : C.prog.funcs[f]? = some fn)
    (witness : ∃ (w : World) (tape : Tape) (i : Input), w.os = os ∧ (w.forCall tape i).Shaped C.prog ∧ i.vars = [] ∧ Input.okWide C.prog (w.forCall tape i) .any w.heap.size f i ∧
      s.pre6 enc C.prog fn conds false (w.forCall tape i).memory i.args ∧ ({} : Assume).holds C.prog (lone (Frame.enter C.prog f i.args .normal) [] (w.forCall tape i)))
    (hl : laidOutB C.prog = true) (hrd : fn.params.toList.all (fun t => C.prog.readableRec t && decide (t < C.prog.types.size)) = true) (hv : s.vars = [])
    (hs : ∀ ds : List (DataW H), ds.length = fn.params.size → (s.fn H (ds ++ [])).results = [.lit (.bool true)] ∧ (s.fn H (ds ++ [])).args = ds ∧ (s.fn H (ds ++ [])).vars = [])
    (hrt : fn.resultTypes = #[tb]) (hb : C.prog.underlying tb = some .bool)
    (walk : ∀ (W : World) (base : Nat) (args : Array Value) (ds : List (DataW H)) (p : List MemPlace),
      (∀ (j : Nat) t v, fn.params[j]? = some t → args[j]? = some v → Value.okWide C.prog W .any base t v) →
      DataW.TrodAll enc C.prog W 0 (fun _ => true) true fn.params.toList args.toList ds p → Ret C.prog f args W (LawR W)) :
    ReturnsInHanded {} C os f .any (s.pre6 enc C.prog fn conds false) (s.post enc C.prog fn false true false false) := by
  refine returnsInHanded_of_change own started noInit hfn witness ?_
  intro W base args ds gs before hval hW _ _
  have hA := hW
  obtain ⟨p, q, hA, _⟩ := hA
  refine Calls.mono (walk W base args ds p hval hA) ?_
  rintro e W' ⟨v, rfl, rfl, hk⟩
  exact ⟨_, rfl, law_post hl hrd hv hs hrt hb hW hk⟩
end

section
variable {H : Type} {enc : TypeId × Value → H} {P : Program} {w : World} {base : Nat} {spare : Nat → Bool} {held : Bool}
/-- a slice of structs of one-cell fields, opened at each index -/
theorem open_rows {t e : TypeId} {fs : Array Field} {fuel : Nat} {cs : List Value} {x : DataW H × List MemPlace} (ht : P.underlying t = some (.slice e)) (he : P.underlying e = some (.struct fs))
    (hone : oneCellFields P fs = true) (hC : P.cellsOf e = fs.size) (h : DataW.trod enc P w base spare held fuel t cs = some x) :
    cs = [.slice none 0 0] ∨
    ∃ (a : Addr) (len cap : Nat), cs = [.slice (some a) len cap] ∧ len ≤ maxLen ∧
      ∀ i, i < len → ∀ (j : Nat) (f : Field), fs[j]? = some f → ∃ (v : Value) (y : DataW H × List MemPlace) (n : Nat), w.cell? (a.add (i * fs.size + j)) = some v ∧ DataW.trod enc P w base spare held n f.type [v] = some y := by
  rcases open_slice ht h with h0 | ⟨a, len, cap, m, n, D, Pl, hcs, hb, hl, hm, hmm, hx, hi⟩
  · exact .inl h0.1
  · refine .inr ⟨a, len, cap, hcs, Nat.le_trans hl hm, fun i him j f hj => ?_⟩
    have hlm : len ≤ m := by rw [hmm]; split <;> omega
    obtain ⟨cs', hc, ht'⟩ := hi i (by omega)
    rw [hC] at hc
    obtain ⟨ys, n', hn', hy, hlen, hyl, hf⟩ := DataW.trod_struct he ht'
    obtain ⟨_, hcl, hat⟩ := World.cells?_some hc
    obtain ⟨ho, hk⟩ := hone_of hone j f hj
    have hjl : j < fs.size := (Array.getElem?_eq_some_iff.1 hj).1
    have hcell := hat j hjl
    have hv : cs'[j]? = some (cs'[j]'(by omega)) := List.getElem?_eq_getElem (by omega)
    have h1 := hf j f hj
    rw [ho, hk] at h1
    have hone' : (cs'.drop j).take 1 = [cs'[j]'(by omega)] := by
      rw [List.drop_eq_getElem_cons (by omega)]
      rfl
    rw [hone'] at h1
    have hys : ys[j]? = some (ys[j]'(by omega)) := List.getElem?_eq_getElem (by omega)
    refine ⟨_, _, n', ?_, h1.trans hys⟩
    rw [← Go.Deep.add_add, hcell, hv]
theorem choose_list {α : Type} (p : Nat → α → Prop) : ∀ n : Nat, (∀ i, i < n → ∃ x, p i x) → ∃ l : List α, l.length = n ∧ ∀ i x, l[i]? = some x → p i x
  | 0, _ => ⟨[], rfl, by simp⟩
  | n + 1, h => by
    obtain ⟨l, hl, hp⟩ := choose_list p n (fun i hi => h i (by omega))
    obtain ⟨x, hx⟩ := h n (by omega)
    refine ⟨l ++ [x], by simp [hl], fun i y hy => ?_⟩
    rcases Nat.lt_or_ge i n with hi | hi
    · rw [List.getElem?_append_left (by omega)] at hy
      exact hp i y hy
    · have := (List.getElem?_eq_some_iff.1 hy).1
      simp only [List.length_append, List.length_cons, List.length_nil] at this
      obtain rfl : i = n := by omega
      rw [List.getElem?_append_right (by omega), hl] at hy
      simp at hy
      exact hy ▸ hx
/-- a slice of pairs of ints, read -/
theorem open_pairs {t e : TypeId} {f0 f1 : Field} {v : Value} {d : DataW H} {p : List MemPlace} {r : Reach} {b0 : Nat} (ht : P.underlying t = some (.slice e)) (he : P.underlying e = some (.struct #[f0, f1]))
    (hone : oneCellFields P #[f0, f1] = true) (hC : P.cellsOf e = 2) (h0 : P.underlying f0.type = some (.int .i64)) (h1 : P.underlying f1.type = some (.int .i64))
    (hv : Value.okWide P w r b0 t v) (h : DataW.Trod enc P w base spare held t v d p) :
    ∃ (o : Option Addr) (c : Nat) (l : List (Int × Int)), v = .slice o l.length c ∧ Rd w o (flat encP l) ∧ l.length ≤ 9223372036854775807 := by
  obtain ⟨a0, len0, cap0, rfl⟩ := okWide_slice ht hv
  obtain ⟨fuel, hf⟩ := h
  rcases open_rows ht he hone hC hf with hcs | ⟨a, len, cap, hcs, hl, hi⟩
  · simp [Value.cells] at hcs
    obtain ⟨rfl, rfl, rfl⟩ := hcs
    exact ⟨none, 0, [], rfl, ⟨fun h => absurd h (by simp [flat]), fun j u hj => by simp [flat] at hj⟩, by simp⟩
  · simp [Value.cells] at hcs
    obtain ⟨rfl, rfl, rfl⟩ := hcs
    obtain ⟨l, hll, hp⟩ := choose_list (fun i (x : Int × Int) => w.cell? (a.add (i * 2)) = some (.int .i64 x.1) ∧ w.cell? (a.add (i * 2 + 1)) = some (.int .i64 x.2)) len0 (fun i hil => by
      obtain ⟨v0, y0, n0, hc0, hy0⟩ := hi i hil 0 f0 rfl
      obtain ⟨v1, y1, n1, hc1, hy1⟩ := hi i hil 1 f1 rfl
      obtain ⟨z0, e0, _⟩ := DataW.trod_int h0 hy0
      obtain ⟨z1, e1, _⟩ := DataW.trod_int h1 hy1
      obtain rfl : v0 = .int .i64 z0 := by simpa using e0
      obtain rfl : v1 = .int .i64 z1 := by simpa using e1
      exact ⟨(z0, z1), hc0, hc1⟩)
    subst hll
    refine ⟨some a, cap0, l, rfl, ?_, by unfold maxLen at hl; omega⟩
    cases l with
    | nil => exact ⟨fun h => absurd h (by simp [flat]), fun j u hj => by simp [flat] at hj⟩
    | cons x0 l0 =>
      obtain ⟨b, off, spot⟩ := a
      have hspot : spot = none := by simpa [Addr.add] using World.cell?_spot (hp 0 x0 rfl).1
      subst hspot
      refine ⟨fun _ => ⟨b, off, rfl⟩, fun j u hj => ?_⟩
      have hjl := (List.getElem?_eq_some_iff.1 hj).1
      rw [flat_length encP_len] at hjl
      have hadd : ∀ k, (⟨b, off, none⟩ : Addr).add k = sat (some ⟨b, off, none⟩) k := fun k => by
        simp only [sat, blkO, offO, Addr.add]
        split <;> simp_all
      obtain ⟨x, hx⟩ : ∃ x, (x0 :: l0)[j / 2]? = some x := ⟨_, List.getElem?_eq_getElem (by omega)⟩
      have hp2 := hp _ _ hx
      rw [hadd, hadd] at hp2
      rcases Nat.mod_two_eq_zero_or_one j with hm | hm
      · have ej : j = j / 2 * 2 + 0 := by omega
        have := flat_get encP_len (off := 0) hx (rfl : (encP x)[0]? = some (.int .i64 x.1))
        rw [ej] at hj ⊢
        rw [this] at hj
        obtain rfl := Option.some.inj hj
        exact hp2.1
      · have ej : j = j / 2 * 2 + 1 := by omega
        have := flat_get encP_len (off := 1) hx (rfl : (encP x)[1]? = some (.int .i64 x.2))
        rw [ej] at hj ⊢
        rw [this] at hj
        obtain rfl := Option.some.inj hj
        exact hp2.2
end
end Go.Fw
namespace Go.Fw
open Go Go.ChangeShapes Go.WideShapes Go.ChangeAt Go.RowKit Go.Deep
set_option linter.unusedVariables false
section
variable {P : Program} {N : Nat} {l : List (Nat × Value)} {C : World → Prop} {d : Option Tmp} {T : TypeId} {pos : String} {af : Array Edge} {g : Option (Nat × Bool)}
theorem ex_rem {t ty : TypeId} {x y : Operand} {k : IntKind} {m n : Int} (hx : ev l x = some (.int k m)) (hy : ev l y = some (.int k n)) (h : n ≠ 0) : Ex P N l C ⟨d, .binOp .rem t x y ty, T, pos, af, g⟩ (.int k (m.tmod n)) := by
  intro a w hA _
  simp only [execOp, hA.ev hx, hA.ev hy, eqGuard_at_int, binOp_rem]
  simp [Op.intDiv, h]
theorem ex_quo {t ty : TypeId} {x y : Operand} {k : IntKind} {m n : Int} (hx : ev l x = some (.int k m)) (hy : ev l y = some (.int k n)) (h : n ≠ 0) : Ex P N l C ⟨d, .binOp .quo t x y ty, T, pos, af, g⟩ (.int k (k.wrap (m.tdiv n))) := by
  intro a w hA _
  simp only [execOp, hA.ev hx, hA.ev hy, eqGuard_at_int, binOp_quo]
  simp [Op.intDiv, h]
theorem ex_convert {s t : TypeId} {x : Operand} {k kd ks : IntKind} {m v : Int} [hs : TIn P s ks] [ht : TIn P t kd] (hx : ev l x = some (.int k m)) (hv : kd.wrap m = v) : Ex P N l C ⟨d, .convert s t x, T, pos, af, g⟩ (.int kd v) := by
  intro a w hA _
  subst hv
  simp only [execOp, hA.ev hx, convert, Sem.run_bind, run_underlying hs.eq, run_underlying ht.eq, Result.andThen_ok, Conv.intToInt, Sem.run_pure]
end
theorem Rd.take {w : World} {o : Option Addr} {xs : List Value} (h : Rd w o xs) (k : Nat) : Rd w o (xs.take k) := by
  refine ⟨fun hp => h.1 (by rw [List.length_take] at hp; omega), fun j u hj => h.2 j u ?_⟩
  have hjk : j < k := by
    have := (List.getElem?_eq_some_iff.1 hj).1
    rw [List.length_take] at this; omega
  rwa [List.getElem?_take_of_lt hjk] at hj
section
variable {H : Type} {enc : TypeId × Value → H} {P : Program} {w : World} {base : Nat} {spare : Nat → Bool} {held : Bool}
theorem slice_cap {t e : TypeId} {d : DataW H} {p : List MemPlace} {o : Option Addr} {n c : Nat} (ht : P.underlying t = some (.slice e)) (h : DataW.Trod enc P w base spare held t (.slice o n c) d p) : n ≤ c := by
  obtain ⟨fuel, hf⟩ := h
  rcases open_slice ht hf with h0 | ⟨a, len, cap, m, n', D, Pl, hcs, hb, hl, hm, hmm, hx, hi⟩
  · have := h0.1
    simp [Value.cells] at this
    omega
  · simp [Value.cells] at hcs
    omega
end
end Go.Fw
namespace Go.Fw
open Go Go.RowKit
set_option linter.unusedVariables false

def encB (b : Bool) : List Value := [.bool b]
theorem encB_len (b : Bool) : (encB b).length = 1 := rfl
/-- a slice as a value: its head, its length, its room -/
abbrev Sd := Option Addr × Nat × Nat
def Sd.v (d : Sd) : Value := .slice d.1 d.2.1 d.2.2
def encS (d : Sd) : List Value := [.slice d.1 d.2.1 d.2.2]
theorem encS_len (d : Sd) : (encS d).length = 1 := rfl
/-- the slices of a slice, as they can be read -/
def RdR {α : Type} (enc : α → List Value) (w : World) (ds : List Sd) (rows : List (List α)) : Prop :=
  ds.length = rows.length ∧ ∀ (i : Nat) (d : Sd) (r : List α), ds[i]? = some d → rows[i]? = some r → d.2.1 = r.length ∧ Rd w d.1 (flat enc r)
theorem HS.rdR {α : Type} {enc : α → List Value} {w0 w : World} {M : Nat → Prop} {H : List It} {ds : List Sd} {rows : List (List α)} (h : HS w0 M H w) (hr : RdR enc w0 ds rows) (hM : M = noM) : RdR enc w ds rows := by
  subst hM
  exact ⟨hr.1, fun i d r hd hrw => ⟨(hr.2 i d r hd hrw).1, h.rd (hr.2 i d r hd hrw).2 id⟩⟩
theorem RdR.at {α : Type} {enc : α → List Value} {w : World} {ds : List Sd} {rows : List (List α)} (h : RdR enc w ds rows) {i : Nat} {r : List α} (hr : rows[i]? = some r) :
    ∃ o c, ds[i]? = some (o, r.length, c) ∧ Rd w o (flat enc r) := by
  have hlt := (List.getElem?_eq_some_iff.1 hr).1
  obtain ⟨d, hd⟩ : ∃ d, ds[i]? = some d := ⟨_, List.getElem?_eq_getElem (by rw [h.1]; exact hlt)⟩
  obtain ⟨h1, h2⟩ := h.2 i d r hd hr
  obtain ⟨o, n, c⟩ := d
  dsimp only at h1 h2
  subst h1
  exact ⟨o, c, hd, h2⟩

theorem flatS_get {ds : List Sd} {i n c : Nat} {o : Option Addr} (h : ds[i]? = some (o, n, c)) : (flat encS ds)[i * 1]? = some (.slice o n c) := flat_get0 encS_len h rfl
theorem flatI_get {li : List Int} {i : Nat} {z : Int} (h : li[i]? = some z) : (flat encI li)[i * 1]? = some (.int .i64 z) := flat_get0 encI_len h rfl
theorem flatB_get {li : List Bool} {i : Nat} {z : Bool} (h : li[i]? = some z) : (flat encB li)[i * 1]? = some (.bool z) := flat_get0 encB_len h rfl
def andK (k : IntKind) (m n : Int) : Int := k.wrap ((BitVec.ofInt k.bits m &&& BitVec.ofInt k.bits n).toNat)
def shrK (k : IntKind) (m n : Int) : Int := m.fdiv (2 ^ (min n.toNat k.bits))

theorem HS.moreM {w0 w : World} {M M' : Nat → Prop} {H : List It} (h : HS w0 M H w) (hM : ∀ b, M b → M' b) : HS w0 M' H w := by
  obtain ⟨hk, F, hF, ho⟩ := h
  exact ⟨⟨hk.os, hk.tape, hk.output, hk.size, fun b hb hn => hk.block b hb fun h => hn (hM b h)⟩, F, hF, fun b hb => (ho b hb).imp id (hM b)⟩
/-- what a call makes that leaves all as it was -/
theorem HS.join {w0 w w' : World} {M : Nat → Prop} {H H' : List It} (h : HS w0 M H w) (h' : HS w noM H' w') : HS w0 M (H' ++ H) w' := by
  obtain ⟨Mc, h1, h2, h3⟩ := HS.frame (Hc := []) (Hf := H) h
  exact h3 w' H' (h'.moreM fun b hb => hb.elim)

/-! ## many parts as one -/
def all (L : List It) : It where
  sat w F := Hp w L F
  loc := fun h he => h.loc he
  lt := fun h b hb => h.lt b hb
  ext := fun h he => h.ext he
theorem HS.open_ {w0 w : World} {M : Nat → Prop} {L H : List It} (h : HS w0 M (all L :: H) w) : HS w0 M (L ++ H) w := by
  obtain ⟨hk, F, ⟨F1, F2, hF, hd, h1, h2⟩, ho⟩ := h
  exact ⟨hk, _, Hp.mk_append hd h1 h2, fun b hb => ho b ((hF b).2 hb)⟩
theorem HS.shut {w0 w : World} {M : Nat → Prop} {L H : List It} (h : HS w0 M (L ++ H) w) : HS w0 M (all L :: H) w := by
  obtain ⟨hk, F, hF, ho⟩ := h
  obtain ⟨F1, F2, hG, hd, h1, h2⟩ := hF.append
  exact ⟨hk, F, ⟨F1, F2, hG, hd, h1, h2⟩, ho⟩
theorem HS.openAt {w0 w : World} {M : Nat → Prop} {L H : List It} {i : Nat} {x : It} (h : HS w0 M (all L :: H) w) (hi : L[i]? = some x) : HS w0 M (x :: all (L.eraseIdx i) :: H) w := by
  have h1 := h.open_.perm ((perm_pick0 i hi).append_right H)
  have h2 : HS w0 M (L.eraseIdx i ++ (x :: H)) w := h1.perm List.perm_middle.symm
  exact h2.shut.perm (.swap _ _ _)
theorem eraseIdx_set_perm {x : It} : ∀ {L : List It} {i : Nat}, i < L.length → (x :: L.eraseIdx i).Perm (L.set i x)
  | [], i, h => by simp at h
  | y :: L, 0, h => .refl _
  | y :: L, i + 1, h => (List.Perm.swap y x _).trans ((eraseIdx_set_perm (L := L) (i := i) (by simpa using h)).cons y)
theorem HS.shutAt {w0 w : World} {M : Nat → Prop} {L H : List It} {i : Nat} {x : It} (h : HS w0 M (x :: all (L.eraseIdx i) :: H) w) (hi : i < L.length) : HS w0 M (all (L.set i x) :: H) w := by
  have h1 : HS w0 M (all (L.eraseIdx i) :: x :: H) w := h.perm (.swap _ _ _)
  have h2 : HS w0 M (x :: (L.eraseIdx i ++ H)) w := h1.open_.perm List.perm_middle
  have h3 : HS w0 M (L.set i x ++ H) w := h2.perm ((eraseIdx_set_perm hi).append_right H)
  exact h3.shut
theorem HS.in_all {w0 w : World} {M : Nat → Prop} {L H : List It} {x : It} (h : HS w0 M H w) (hm : all L ∈ H) (hx : x ∈ L) : ∃ F, x.sat w F := by
  obtain ⟨R, p⟩ := mem_split hm
  exact ((h.perm p).open_).sat (List.mem_append_left _ hx)
theorem HS.nil_all {w0 w : World} {M : Nat → Prop} {H : List It} (h : HS w0 M H w) : HS w0 M (all [] :: H) w := HS.shut (L := []) h

theorem HS.pushA {w0 w : World} {M : Nat → Prop} {L H : List It} {x : It} (h : HS w0 M (x :: all L :: H) w) : HS w0 M (all (L ++ [x]) :: H) w := by
  have h1 : HS w0 M (all L :: x :: H) w := h.perm (.swap _ _ _)
  have h2 : HS w0 M (L ++ [x] ++ H) w := by simpa using h1.open_
  exact h2.shut

/-- slices of one's own, one beside the other -/
def owns {α : Type} (T sz : Nat) (enc : α → List Value) (ds : List Sd) (rows : List (List α)) : List It := List.zipWith (fun (d : Sd) r => own T sz d.1 d.2.1 d.2.2 (flat enc r)) ds rows
theorem owns_at {α : Type} {T sz : Nat} {enc : α → List Value} {ds : List Sd} {rows : List (List α)} {i : Nat} {d : Sd} {r : List α} (hd : ds[i]? = some d) (hr : rows[i]? = some r) : (owns T sz enc ds rows)[i]? = some (own T sz d.1 d.2.1 d.2.2 (flat enc r)) := by
  simp [owns, List.getElem?_zipWith, hd, hr]
theorem owns_set {α : Type} {T sz : Nat} {enc : α → List Value} : ∀ {ds : List Sd} {rows : List (List α)} {i : Nat} {d : Sd} {r : List α}, (owns T sz enc (ds.set i d) (rows.set i r)) = (owns T sz enc ds rows).set i (own T sz d.1 d.2.1 d.2.2 (flat enc r))
  | [], rows, i, d, r => by simp [owns]
  | e :: ds, [], i, d, r => by cases i <;> simp [owns]
  | e :: ds, s :: rows, 0, d, r => by simp [owns]
  | e :: ds, s :: rows, i + 1, d, r => by
    have := owns_set (T := T) (sz := sz) (enc := enc) (ds := ds) (rows := rows) (i := i) (d := d) (r := r)
    simp only [owns] at this
    simp [owns, this]
theorem owns_snoc {α : Type} {T sz : Nat} {enc : α → List Value} {ds : List Sd} {rows : List (List α)} (h : ds.length = rows.length) (d : Sd) (r : List α) : owns T sz enc (ds ++ [d]) (rows ++ [r]) = owns T sz enc ds rows ++ [own T sz d.1 d.2.1 d.2.2 (flat enc r)] := by
  simp [owns, List.zipWith_append h]
theorem owns_length {α : Type} {T sz : Nat} {enc : α → List Value} {ds : List Sd} {rows : List (List α)} (h : ds.length = rows.length) : (owns T sz enc ds rows).length = rows.length := by simp [owns, h]
theorem HS.owns_nil {α : Type} (T sz : Nat) (enc : α → List Value) {w0 w : World} {M : Nat → Prop} : ∀ (n : Nat) {H : List It}, HS w0 M H w → HS w0 M (all (owns T sz enc (List.replicate n (none, 0, 0)) (List.replicate n [])) :: H) w
  | 0, H, h => h.nil_all
  | n + 1, H, h => by
    have h1 := (HS.owns_nil T sz enc n h).open_
    have h2 := (h1.nil_own T sz)
    exact HS.shut (L := owns T sz enc (List.replicate (n + 1) (none, 0, 0)) (List.replicate (n + 1) [])) h2
/-- what is one's own can be read -/
theorem HS.owns_rd {α : Type} {T sz : Nat} {enc : α → List Value} {ds : List Sd} {rows : List (List α)} {w0 w : World} {M : Nat → Prop} {H : List It} (h : HS w0 M H w) (hm : all (owns T sz enc ds rows) ∈ H) {i : Nat} {d : Sd} {r : List α} (hd : ds[i]? = some d) (hr : rows[i]? = some r) :
    Rd w d.1 (flat enc r) ∧ (flat enc r).length = d.2.1 * sz := by
  obtain ⟨F, hF⟩ := h.in_all hm (List.mem_of_getElem? (owns_at (T := T) (sz := sz) (enc := enc) hd hr))
  exact ⟨Fw.own_rd hF, Fw.own_len hF⟩
theorem HS.owns_rdR {α : Type} {T sz : Nat} {enc : α → List Value} {ds : List Sd} {rows : List (List α)} {w0 w : World} {M : Nat → Prop} {H : List It} (h : HS w0 M H w) (hm : all (owns T sz enc ds rows) ∈ H) (hl : ds.length = rows.length) (henc : ∀ x, (enc x).length = sz) (hsz : 0 < sz) : RdR enc w ds rows := by
  refine ⟨hl, fun i d r hd hr => ?_⟩
  obtain ⟨h1, h2⟩ := h.owns_rd hm hd hr
  refine ⟨?_, h1⟩
  rw [flat_length henc] at h2
  exact (Nat.eq_of_mul_eq_mul_right hsz h2).symm
theorem flat_set1 {α : Type} {enc : α → List Value} (henc : ∀ x, (enc x).length = 1) {l : List α} {i : Nat} (hi : i < l.length) (y : α) : Fw.put (flat enc l) i (enc y) = flat enc (l.set i y) := by
  have := flat_put henc (l := l) (i := i) (x := l[i]) (y := y) (off := 0) (vs := enc y) (List.getElem?_eq_getElem hi) (by
    unfold put
    rw [List.take_zero, List.drop_of_length_le (by rw [henc, henc]; exact Nat.le_refl _)]
    simp) (by rw [henc]; exact Nat.le_refl _)
  simpa using this
theorem flat_replicate {α : Type} {enc : α → List Value} {z : Value} {x : α} (h : enc x = [z]) : ∀ n, List.replicate n z = flat enc (List.replicate n x)
  | 0 => rfl
  | n + 1 => by
    rw [List.replicate_succ, List.replicate_succ, flat_replicate h n]
    simp [flat, h]
theorem made_flat {α : Type} {enc : α → List Value} {z : Value} {x : α} (h : enc x = [z]) (hz : z.cells = #[z]) (n : Nat) : (madeCells z.cells (n * 1)).toList.take (n * 1) = flat enc (List.replicate n x) := by
  rw [madeCells_scalar z hz, ← flat_replicate h n]
  simp

section
variable {P : Program} {N : Nat} {l : List (Nat × Value)} {C : World → Prop} {d : Option Tmp} {T : TypeId} {pos : String} {af : Array Edge} {g : Option (Nat × Bool)}
/-- make([]T, n), of one cell each -/
theorem op_make1 {α : Type} (enc : α → List Value) (x0 : α) {t e by_ : Nat} {z : Value} {zs : List Value} {x y : Operand} {kl kc : IntKind} {n : Nat} {m m' : Int} {w0 w : World} {M : Nat → Prop} {H : List It} [ht : TSl P t e] [hi : TIf P e z zs 1 by_]
    (hx : ev l x = some (.int kl m)) (hy : ev l y = some (.int kc m')) (hm : m = (n : Int)) (hm' : m' = (n : Int)) (hc : n ≤ maxLen) (hb : by_ * n ≤ 140737488355328) (he : enc x0 = [z]) (hz : z.cells = #[z]) (hH : HS w0 M H w) :
    Op1 P N l ⟨d, .makeSlice t x y, T, pos, af, g⟩ w (fun v w' => ∃ o, v = .slice o n n ∧ HS w0 M (own e 1 o n n (flat enc (List.replicate n x0)) :: H) w') := by
  subst hm; subst hm'
  have := op_makeSlice (P := P) (N := N) (l := l) (d := d) (T := T) (pos := pos) (af := af) (g := g) (t := t) (e := e) hx hy (Nat.le_refl n) hc hb hH
  rw [made_flat he hz] at this
  exact this
theorem ex_and {t ty : TypeId} {x y : Operand} {k : IntKind} {m n v : Int} (hx : ev l x = some (.int k m)) (hy : ev l y = some (.int k n)) (hv : andK k m n = v) : Ex P N l C ⟨d, .binOp .and t x y ty, T, pos, af, g⟩ (.int k v) := by
  intro a w hA _
  subst hv
  simp only [execOp, hA.ev hx, hA.ev hy, eqGuard_at_int, binOp_and]
  simp [Op.intBits, andK]
theorem ex_shr {t ty : TypeId} {x y : Operand} {k k2 : IntKind} {m n v : Int} (hx : ev l x = some (.int k m)) (hy : ev l y = some (.int k2 n)) (hn : 0 ≤ n) (hv : shrK k m n = v) : Ex P N l C ⟨d, .binOp .shr t x y ty, T, pos, af, g⟩ (.int k v) := by
  intro a w hA _
  subst hv
  simp only [execOp, hA.ev hx, hA.ev hy, eqGuard_at_int, binOp_shr]
  simp [Op.shift, shrK, show ¬ n < 0 by omega]
theorem ex_addK {t ty : TypeId} {x y : Operand} {k : IntKind} {m n v : Int} (hx : ev l x = some (.int k m)) (hy : ev l y = some (.int k n)) (h : k.wrap (m + n) = v) : Ex P N l C ⟨d, .binOp .add t x y ty, T, pos, af, g⟩ (.int k v) := by
  intro a w hA _
  subst h
  simp only [execOp, hA.ev hx, hA.ev hy, eqGuard_at_int, binOp_add]
  simp [Op.intArith]
theorem ex_subK {t ty : TypeId} {x y : Operand} {k : IntKind} {m n v : Int} (hx : ev l x = some (.int k m)) (hy : ev l y = some (.int k n)) (h : k.wrap (m - n) = v) : Ex P N l C ⟨d, .binOp .sub t x y ty, T, pos, af, g⟩ (.int k v) := by
  intro a w hA _
  subst h
  simp only [execOp, hA.ev hx, hA.ev hy, eqGuard_at_int, binOp_sub]
  simp [Op.intArith]
theorem ex_mulK {t ty : TypeId} {x y : Operand} {k : IntKind} {m n v : Int} (hx : ev l x = some (.int k m)) (hy : ev l y = some (.int k n)) (h : k.wrap (m * n) = v) : Ex P N l C ⟨d, .binOp .mul t x y ty, T, pos, af, g⟩ (.int k v) := by
  intro a w hA _
  subst h
  simp only [execOp, hA.ev hx, hA.ev hy, eqGuard_at_int, binOp_mul]
  simp [Op.intArith]
theorem run_eqlB {t : TypeId} [h : TBo P t] (m n : Bool) (w : World) : (Op.equal t (.bool m) (.bool n)).run P w = .ok (m == n) w := by
  exact run_equal_bool w t m n h.eq
theorem ex_eqlB {t ty : TypeId} {x y : Operand} {m n : Bool} [h : TBo P t] (hx : ev l x = some (.bool m)) (hy : ev l y = some (.bool n)) : Ex P N l C ⟨d, .binOp .eql t x y ty, T, pos, af, g⟩ (.bool (m == n)) := by
  intro a w hA _
  simp [execOp, hA.ev hx, hA.ev hy, eqGuard_at_bool, binOp, run_eqlB]
theorem ex_neqB {t ty : TypeId} {x y : Operand} {m n : Bool} [h : TBo P t] (hx : ev l x = some (.bool m)) (hy : ev l y = some (.bool n)) : Ex P N l C ⟨d, .binOp .neq t x y ty, T, pos, af, g⟩ (.bool (m != n)) := by
  intro a w hA _
  simp [execOp, hA.ev hx, hA.ev hy, eqGuard_at_bool, binOp, run_eqlB]
  cases m <;> cases n <;> rfl

theorem cl_w {w0 : World} {M : Nat → Prop} {H : List It} {b j : Nat} {v : Value} (h : w0.cell? (bat b j) = some v) (hM : ¬ M b) : Cl (HS w0 M H) (bat b j) v := fun w hH => by
  have hb : b < w0.heap.size := World.block_lt_of_cell? w0 (bat b j) h
  rw [World.cell?_of_block (w := w0) (hH.1.block b hb hM)]
  exact h
theorem HS.cellw {w0 w : World} {M : Nat → Prop} {H : List It} {b j : Nat} {v : Value} (hH : HS w0 M H w) (h : w0.cell? (bat b j) = some v) (hM : ¬ M b) : w.cell? (bat b j) = some v := cl_w h hM w hH
theorem ng_normal {Q : Exit → Act → World → Prop} {a : Act} {w : World} (h : Q .normal a w) : Exit.noGoto Q .normal a w := h
theorem ng_ret {Q : Exit → Act → World → Prop} {a : Act} {w : World} (h : Q .ret a w) : Exit.noGoto Q .ret a w := h
/-- a store of one cell into an element of what is ours -/
theorem op_set1 {α : Type} {enc : α → List Value} {y0 : α} {t by_ j Tb n cap : Nat} {o : Option Addr} {z v : Value} {zs : List Value} {x y : Operand} {li : List α} {w0 w : World} {M : Nat → Prop} {H H' : List It} [hi : TIf P t z zs 1 by_]
    (hx : ev l x = some (.pointer (some (sat o j)))) (hy : ev l y = some v) (he : enc y0 = [v]) (h1 : v.oneCell' = true) (henc : ∀ x, (enc x).length = 1) (hH : HS w0 M H w) (hr : Rp H (own Tb 1 o n cap (flat enc li)) (own Tb 1 o n cap (flat enc (li.set j y0))) H') (hj : j < li.length) :
    Op1 P N l ⟨d, .store t x y, T, pos, af, g⟩ w (fun _ w' => HS w0 M H' w') :=
  op_store_own1 (hi := hi) hx hy h1 hH hr (by rw [flat_length henc]; omega) (by rw [← he]; exact flat_set1 henc hj y0)
theorem op_setI {m : Int} {t by_ j Tb n cap : Nat} {o : Option Addr} {z : Value} {zs : List Value} {x y : Operand} {li : List Int} {w0 w : World} {M : Nat → Prop} {H H' : List It} [hi : TIf P t z zs 1 by_]
    (hx : ev l x = some (.pointer (some (sat o j)))) (hy : ev l y = some (.int .i64 m)) (hH : HS w0 M H w) (hr : Rp H (own Tb 1 o n cap (flat encI li)) (own Tb 1 o n cap (flat encI (li.set j m))) H') (hj : j < li.length) :
    Op1 P N l ⟨d, .store t x y, T, pos, af, g⟩ w (fun _ w' => HS w0 M H' w') := op_set1 (hi := hi) (y0 := m) hx hy rfl rfl encI_len hH hr hj
theorem op_setB {m : Bool} {t by_ j Tb n cap : Nat} {o : Option Addr} {z : Value} {zs : List Value} {x y : Operand} {li : List Bool} {w0 w : World} {M : Nat → Prop} {H H' : List It} [hi : TIf P t z zs 1 by_]
    (hx : ev l x = some (.pointer (some (sat o j)))) (hy : ev l y = some (.bool m)) (hH : HS w0 M H w) (hr : Rp H (own Tb 1 o n cap (flat encB li)) (own Tb 1 o n cap (flat encB (li.set j m))) H') (hj : j < li.length) :
    Op1 P N l ⟨d, .store t x y, T, pos, af, g⟩ w (fun _ w' => HS w0 M H' w') := op_set1 (hi := hi) (y0 := m) hx hy rfl rfl encB_len hH hr hj
theorem op_setS {o1 : Option Addr} {n1 c1 : Nat} {t by_ j Tb n cap : Nat} {o : Option Addr} {z : Value} {zs : List Value} {x y : Operand} {li : List Sd} {w0 w : World} {M : Nat → Prop} {H H' : List It} [hi : TIf P t z zs 1 by_]
    (hx : ev l x = some (.pointer (some (sat o j)))) (hy : ev l y = some (.slice o1 n1 c1)) (hH : HS w0 M H w) (hr : Rp H (own Tb 1 o n cap (flat encS li)) (own Tb 1 o n cap (flat encS (li.set j (o1, n1, c1)))) H') (hj : j < li.length) :
    Op1 P N l ⟨d, .store t x y, T, pos, af, g⟩ w (fun _ w' => HS w0 M H' w') := op_set1 (hi := hi) (y0 := (o1, n1, c1)) hx hy rfl rfl encS_len hH hr hj

/-- copy into a part of what is ours, of one cell each -/
theorem op_copy {t e by_ n cap m nd cd cs k : Nat} {z : Value} {zs : List Value} {o od ox : Option Addr} {x y : Operand} {xs news : List Value} {ty : TypeId} {w0 w : World} {M : Nat → Prop} {H H' : List It} [ht : TSl P t e] [hi : TIf P e z zs 1 by_]
    (hx : ev l x = some (.slice od nd cd)) (hy : ev l y = some (.slice ox m cs)) (hH : HS w0 M H w) (hr : Rd w ox news) (hl : news.length = Nat.min m nd) (hod : 0 < news.length → od = subO o cap k 1 ∧ k < cap)
    (h1 : news.all (·.oneCell') = true) (hk : k + news.length ≤ xs.length) (hrp : Rp H (own e 1 o n cap xs) (own e 1 o n cap (put xs k news)) H') :
    Op1 P N l ⟨d, .call ⟨.builtin .copy, #[x, y], #[t, ty]⟩, T, pos, af, g⟩ w (fun v w' => v = .int .i64 (Nat.min m nd) ∧ HS w0 M H' w') := by
  intro a hA K Q hK
  obtain ⟨ti, h3, h4, h5, h6⟩ := hi.eq
  unfold Oper.wp
  rcases Nat.eq_zero_or_pos news.length with h0 | h0
  · have hn0 : Nat.min m nd = 0 := by omega
    obtain rfl : news = [] := List.length_eq_zero_iff.1 h0
    have hrun : (Builtin.copy_ #[t, ty] T #[.slice od nd cd, .slice ox m cs]).run P w = .ok (.int .i64 0) w := by
      have hl : ∀ (x : Addr), (loadCells x 0).run P w = .ok #[] w := fun x => by simpa using run_loadCells_list (P := P) w x [] (by simp)
      cases od <;> cases ox <;> simp [Builtin.copy_, run_underlying ht.eq, Builtin.lenOf, Builtin.firstCells, sizeOf, typeInfo, h3, h5, hn0, storeCells, hl, goInt]
    have hput : put xs k [] = xs := by simp [put]
    simp only [execOp, resolve, invoke, builtin, Sem.run_bind, Sem.run_pure, Result.andThen_ok, List.map_toArray, List.map_cons, List.map_nil, hA.ev hx, hA.ev hy, hrun, Oper.upon]
    refine hK _ _ ⟨by rw [hn0]; rfl, ?_⟩
    rw [hput] at hrp
    exact hH.conv hrp fun F hF => hF
  · obtain ⟨hod, hkc⟩ := hod h0
    obtain ⟨R, p, _⟩ := hrp.split
    obtain ⟨F, hF⟩ := hH.sat (p.symm.subset (List.mem_cons_self))
    rcases hF with ⟨rfl, rfl, rfl, rfl, _⟩ | ⟨b, spare, rfl, g2, g3, g4, g5, g6, g7⟩
    · simp at hk; omega
    have hod' : od = some ⟨b, k, none⟩ := by
      rw [hod]
      simp [subO, show cap ≠ k by omega, Addr.add]
      exact fun h => h.symm
    subst hod'
    obtain ⟨bx, offx, rfl⟩ := hr.1 h0
    have hload : (loadCells (⟨bx, offx, none⟩ : Addr) news.length).run P w = .ok news.toArray w := run_loadCells_list (P := P) w _ news (fun j v hj => by
      rw [add_eq_sat]; exact hr.2 j v hj)
    have hst := run_storeCells_at (P := P) b k e news 0 (xs ++ spare).toArray w g7 (by simp; omega) (fun x hx => List.all_eq_true.1 h1 x hx)
    simp only [Nat.add_zero] at hst
    have hput : put (xs ++ spare) k news = put xs k news ++ spare := by
      unfold put
      have e1 : k ≤ xs.length := by omega
      have e2 : k + news.length ≤ xs.length := by omega
      rw [List.take_append_of_le_length e1, List.drop_append_of_le_length e2]
      simp
    have hput' : (xs ++ spare).take k ++ news ++ (xs ++ spare).drop (k + news.length) = put xs k news ++ spare := hput
    have hrun : (Builtin.copy_ #[t, ty] T #[.slice (some ⟨b, k, none⟩) nd cd, .slice (some ⟨bx, offx, none⟩) m cs]).run P w = .ok (.int .i64 (Nat.min m nd)) (w.setRow b (put xs k news ++ spare).toArray) := by
      rw [hput'] at hst
      simp [Builtin.copy_, run_underlying ht.eq, Builtin.lenOf, Builtin.firstCells, sizeOf, typeInfo, h3, h5, ← hl, hload, hst, goInt]
    simp only [execOp, resolve, invoke, builtin, Sem.run_bind, Sem.run_pure, Result.andThen_ok, List.map_toArray, List.map_cons, List.map_nil, hA.ev hx, hA.ev hy, hrun, Oper.upon]
    refine hK _ _ ⟨rfl, hH.turn hrp fun F' hF' => ?_⟩
    rcases hF' with ⟨h0, _⟩ | ⟨b', spare', hb', q2, q3, q4, q5, q6, q7⟩
    · cases h0
    · obtain rfl : b = b' := by simpa using hb'
      have hsp : xs ++ spare = xs ++ spare' := by rw [g7] at q7; simpa using q7
      obtain rfl : spare = spare' := List.append_cancel_left hsp
      refine ⟨setRow_kp w b _ F' ((q2 b).2 rfl), F', .inr ⟨b, spare, rfl, q2, ?_, q4, q5, ?_, setRow_heap w b _ _ _ _ g7⟩, fun b hb => .inr hb⟩
      · rw [put_length (by omega)]; exact q3
      · rw [put_length (by omega)]; exact q6
end
/-- found by trial -/
theorem MEMT {α : Type _} {x : α} {l : List α} (h : x ∈ l := by repeat (first | exact List.Mem.head _ | apply List.Mem.tail)) : x ∈ l := h
theorem CATST {n : Nat} {vs xs : List Value} (h : Cats n vs xs := by repeat (first | exact Cats.nil | (apply Cats.c1; rfl) | apply Cats.c2 | apply Cats.c3 | apply Cats.c4)) : Cats n vs xs := h
/-- what an operation yields that turns nothing: found by trial -/
theorem EXT {P : Program} {N : Nat} {l : List (Nat × Value)} {C : World → Prop} {o : Oper} {v : Value} (h : Ex P N l C o v := by (first | (apply ex_move; rfl) | (apply ex_assign; rfl) | (apply ex_eql; rfl; rfl) | (apply ex_eqlB; rfl; rfl) | (apply ex_neq; rfl; rfl) | (apply ex_neqB; rfl; rfl) | (apply ex_lss; rfl; rfl) | (apply ex_leq; rfl; rfl) | (apply ex_gtr; rfl; rfl) | (apply ex_geq; rfl; rfl) | (apply ex_len_slice; rfl) | (apply ex_fieldAddr_sat; rfl; rfl) | (apply ex_fieldAddr_bat; rfl; rfl) | (apply ex_nilCheck; rfl) | (apply ex_extract; rfl; rfl) | (apply ex_not; rfl) | (apply ex_pick_t; rfl; rfl) | (apply ex_pick_f; rfl; rfl) | (apply ex_succ; rfl; rfl; omega) | (apply ex_add; rfl; rfl; unfold i64ok; omega) | (apply ex_pred; rfl; rfl; omega) | (apply ex_sub; rfl; rfl; unfold i64ok; omega) | (apply ex_indexAddr_nat; rfl; rfl; omega; first | assumption | exact hH.own_sp MEMT) | (apply ex_indexAddr; rfl; rfl; omega; omega; first | assumption | exact hH.own_sp MEMT) | (apply ex_load; rfl; apply cl_cb; exact MEMT; rfl) | (apply ex_load_st; rfl; rotate_left; apply cls_cb_all; exact MEMT; rfl) | (apply ex_lookupI_ok; rfl; rfl; exact MEMT) | (apply ex_lookupI; rfl; rfl; exact MEMT) | (apply ex_makeFunc; rfl; rfl) | (apply ex_build_full; rfl; rfl; rfl; rfl; rfl; (repeat (first | (intro _ h; exact absurd h (List.not_mem_nil)) | (refine List.forall_mem_cons.2 ⟨one_cell_of _ _, ?_⟩)))))) : Ex P N l C o v := h
end Go.Fw
namespace Go.Fw
open Go Go.ChangeShapes Go.WideShapes Go.ChangeAt Go.RowKit Go.Deep
set_option linter.unusedVariables false
/-- all parts are of a size that a machine can have -/
def Szd {H : Type} (P : Program) (t : TypeId) (d : DataW H) : Prop := (d.weights P t).all (· ≤ reachBytes) = true
section
variable {H : Type} {enc : TypeId × Value → H} {P : Program}
theorem szd_all {e : TypeId} : ∀ {l : List (DataW H)}, (DataW.weightsAll P e l).all (· ≤ reachBytes) = true → ∀ d ∈ l, Szd P e d
  | [], _, d, hd => by simp at hd
  | x :: r, h, d, hd => by
    simp only [DataW.weightsAll, List.all_append, Bool.and_eq_true] at h
    rcases List.mem_cons.1 hd with rfl | hd
    · exact h.1
    · exact szd_all h.2 d hd
theorem Szd.slice {t e : TypeId} {elems spare : List (DataW H)} (h : Szd P t (.slice elems spare)) (ht : P.underlying t = some (.slice e)) :
    (elems.length + spare.length) * P.bytesOf e ≤ reachBytes ∧ ∀ d, d ∈ elems → Szd P e d := by
  simp only [Szd, DataW.weights, ht, List.all_cons, List.all_append, Bool.and_eq_true, decide_eq_true_eq] at h
  exact ⟨h.1, szd_all h.2.1⟩
theorem szd_each {ts : List TypeId} : ∀ {ts : List TypeId} {l : List (DataW H)}, (DataW.weightsEach P ts l).all (· ≤ reachBytes) = true → ∀ (j : Nat) t d, ts[j]? = some t → l[j]? = some d → Szd P t d
  | [], l, _, j, t, d, ht, _ => by simp at ht
  | _ :: _, [], _, j, t, d, _, hd => by simp at hd
  | t0 :: ts, d0 :: l, h, 0, t, d, ht, hd => by
    simp only [DataW.weightsEach, List.all_append, Bool.and_eq_true] at h
    obtain rfl : t0 = t := by simpa using ht
    obtain rfl : d0 = d := by simpa using hd
    exact h.1
  | t0 :: ts, d0 :: l, h, j + 1, t, d, ht, hd => by
    simp only [DataW.weightsEach, List.all_append, Bool.and_eq_true] at h
    exact szd_each (ts := []) h.2 j t d (by simpa using ht) (by simpa using hd)

theorem law_lifted_sized {C : Checked} {os : Os} {f : FuncId} {fn : Func} {s : ChangeSpec} {conds : List PathCond} {tb : TypeId}
    (own : ownKnob C.prog.godebug = none) (started : os.Started) (noInit : C.prog.inits.idxOf? f = none) (hfn : C.prog.funcs[f]? = some fn)
    (witness : ∃ (w : World) (tape : Tape) (i : Input), w.os = os ∧ (w.forCall tape i).Shaped C.prog ∧ i.vars = [] ∧ Input.okWide C.prog (w.forCall tape i) .any w.heap.size f i ∧
      s.pre6 enc C.prog fn conds false (w.forCall tape i).memory i.args ∧ ({} : Assume).holds C.prog (lone (Frame.enter C.prog f i.args .normal) [] (w.forCall tape i)))
    (hl : laidOutB C.prog = true) (hrd : fn.params.toList.all (fun t => C.prog.readableRec t && decide (t < C.prog.types.size)) = true) (hv : s.vars = [])
    (hs : ∀ ds : List (DataW H), ds.length = fn.params.size → (s.fn H (ds ++ [])).results = [.lit (.bool true)] ∧ (s.fn H (ds ++ [])).args = ds ∧ (s.fn H (ds ++ [])).vars = [])
    (hrt : fn.resultTypes = #[tb]) (hb : C.prog.underlying tb = some .bool)
    (walk : ∀ (W : World) (base : Nat) (args : Array Value) (ds : List (DataW H)) (p : List MemPlace),
      (∀ (j : Nat) t v, fn.params[j]? = some t → args[j]? = some v → Value.okWide C.prog W .any base t v) →
      DataW.TrodAll enc C.prog W 0 (fun _ => true) true fn.params.toList args.toList ds p → (∀ (j : Nat) t d, fn.params.toList[j]? = some t → ds[j]? = some d → Szd C.prog t d) → Ret C.prog f args W (LawR W)) :
    ReturnsInHanded {} C os f .any (s.pre6 enc C.prog fn conds false) (s.post enc C.prog fn false true false false) := by
  refine returnsInHanded_of_change_sized own started noInit hfn witness ?_
  intro W base args ds gs before hval hW _ hsz _
  have hA := hW
  obtain ⟨p, q, hA, hq⟩ := hA
  refine Calls.mono (walk W base args ds p hval hA fun j t d ht hd => ?_) ?_
  · have htl := (List.getElem?_eq_some_iff.1 ht).1
    have hdl := (List.getElem?_eq_some_iff.1 hd).1
    exact szd_each (ts := []) hsz j t d (by rw [List.getElem?_append_left htl]; exact ht) (by rw [List.getElem?_append_left hdl]; exact hd)
  · rintro e W' ⟨v, rfl, rfl, hk⟩
    exact ⟨_, rfl, law_post hl hrd hv hs hrt hb hW hk⟩
end

section
variable {H : Type} {enc : TypeId × Value → H} {P : Program} {w : World} {base : Nat} {held : Bool}
theorem add_sat (a : Addr) (h : a.spot = none) (k : Nat) : a.add k = sat (some a) k := by
  obtain ⟨b, off, spot⟩ := a
  obtain rfl : spot = none := h
  simp only [sat, blkO, offO, Addr.add]
  split <;> simp_all
/-- a slice of slices of ints, read -/
theorem open_lists {t e q : TypeId} {v : Value} {d : DataW H} {p : List MemPlace} {r : Reach} {b0 : Nat} (ht : P.underlying t = some (.slice e)) (he : P.underlying e = some (.slice q)) (hq : P.underlying q = some (.int .i64))
    (ce : P.cellsOf e = 1) (cq : P.cellsOf q = 1) (be : P.bytesOf e = 24) (bq : P.bytesOf q = 8) (hv : Value.okWide P w r b0 t v) (h : DataW.Trod enc P w base (fun _ => true) held t v d p) (hz : Szd P t d) :
    ∃ (o : Option Addr) (c : Nat) (ds : List Sd) (next : List (List Int)), v = .slice o next.length c ∧ Rd w o (flat encS ds) ∧ RdR encI w ds next ∧ next.length ≤ c ∧ next.length ≤ 140737488355328 ∧ ∀ l ∈ next, l.length ≤ 140737488355328 := by
  obtain ⟨a0, len0, cap0, rfl⟩ := okWide_slice ht hv
  obtain ⟨fuel, hf⟩ := h
  rcases open_int_rows ht he hq ce cq hf with ⟨hcs, hx⟩ | ⟨a, len, cap, A, L, C, Z, hcs, hb, hl, hm, hx, hrow⟩
  · simp [Value.cells] at hcs
    obtain ⟨rfl, rfl, rfl⟩ := hcs
    exact ⟨none, 0, [], [], rfl, ⟨fun h => absurd h (by simp [flat]), fun j u hj => by simp [flat] at hj⟩, ⟨rfl, fun i d r hd => by simp at hd⟩, Nat.le_refl _, Nat.zero_le _, fun l hl => by simp at hl⟩
  · simp [Value.cells] at hcs
    obtain ⟨rfl, rfl, rfl⟩ := hcs
    simp only [Prod.mk.injEq] at hx
    obtain ⟨rfl, _⟩ := hx
    obtain ⟨hz1, hz2⟩ := hz.slice ht
    have hrb : reachBytes = 140737488351232 := rfl
    rw [be] at hz1
    simp only [List.length_map, List.length_range] at hz1
    have hcell : ∀ i, i < len0 → w.cell? (a.add i) = some (.slice (A i) (L i) (C i)) := fun i hi => (hrow i (by omega)).1
    refine ⟨some a, cap0, (List.range len0).map fun i => (A i, L i, C i), (List.range len0).map fun i => (Z i).take (L i), by simp, ?_, ⟨by simp, fun i d r hd hr => ?_⟩, by simpa using hl, by simp; omega, fun l hlm => ?_⟩
    · by_cases h0 : len0 = 0
      · subst h0
        exact ⟨fun h => absurd h (by simp [flat]), fun j u hj => by simp [flat] at hj⟩
      have hspot : a.spot = none := by simpa [Addr.add] using World.cell?_spot (hcell 0 (by omega))
      refine ⟨fun _ => ⟨a.block, a.off, by rw [← hspot]⟩, fun j u hj => ?_⟩
      have hjl := (List.getElem?_eq_some_iff.1 hj).1
      rw [flat_length encS_len] at hjl
      simp only [List.length_map, List.length_range, Nat.mul_one] at hjl
      have hd : ((List.range len0).map fun i => ((A i, L i, C i) : Sd))[j]? = some (A j, L j, C j) := by simp [hjl]
      have h1 := flatS_get hd
      rw [Nat.mul_one] at h1
      rw [h1] at hj
      obtain rfl := Option.some.inj hj
      rw [← add_sat a hspot]
      exact hcell j hjl
    · have hil : i < len0 := by
        have := (List.getElem?_eq_some_iff.1 hd).1
        simpa using this
      have hd' : (A i, L i, C i) = d := by simpa [hil] using hd
      have hr' : (Z i).take (L i) = r := by simpa [hil] using hr
      subst hd'
      subst hr'
      obtain ⟨h1, h2, h3, h4, h5, h6, h7⟩ := hrow i (by omega)
      refine ⟨by simp [h4]; omega, ?_⟩
      by_cases h0 : L i = 0
      · rw [h0]
        exact ⟨fun h => absurd h (by simp [flat]), fun j u hj => by simp [flat] at hj⟩
      cases hA : A i with
      | none => have := h6 hA; omega
      | some a' =>
        obtain ⟨h8, h9⟩ := h7 a' hA
        have hspot : a'.spot = none := by simpa [Addr.add] using World.cell?_spot (h9 0 (by omega))
        refine ⟨fun _ => ⟨a'.block, a'.off, by rw [← hspot]⟩, fun j u hj => ?_⟩
        have hjl := (List.getElem?_eq_some_iff.1 hj).1
        rw [flat_length encI_len] at hjl
        simp only [List.length_take, Nat.mul_one] at hjl
        have hd : ((Z i).take (L i))[j]? = some ((Z i).getD j 0) := by
          rw [List.getElem?_take_of_lt (by omega)]
          simp [List.getD, List.getElem?_eq_getElem (show j < (Z i).length by omega)]
        have hx := flatI_get hd
        rw [Nat.mul_one] at hx
        rw [hx] at hj
        obtain rfl := Option.some.inj hj
        rw [← add_sat a' hspot]
        exact h9 j (by omega)
    · obtain ⟨i, hi, rfl⟩ := List.mem_map.1 hlm
      have hil := List.mem_range.1 hi
      obtain ⟨h1, h2, h3, h4, h5, h6, h7⟩ := hrow i (by omega)
      have hs := hz2 (intRow .i64 (A i) (L i) (Z i)) (List.mem_map.2 ⟨i, hi, rfl⟩)
      rw [List.length_take]
      cases hA : A i with
      | none => have := h6 hA; omega
      | some a' =>
        rw [hA] at hs
        have hs2 := (Szd.slice (e := q) hs he).1
        rw [bq] at hs2
        simp [lits, h4] at hs2
        omega
end
end Go.Fw
