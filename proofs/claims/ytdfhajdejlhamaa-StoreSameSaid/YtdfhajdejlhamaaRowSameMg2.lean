/-
  What is known of this seat's types and functions, for the frame. Printed by a program. Conditions: none.
  The frame of a law's proof: from what the walk gives to the row. Conditions: none.
  More of the frame: whole numbers of other kinds; a part of what can be read. Conditions: none.
  More of the frame: slices of slices; many parts as one; copy; bits; bools. Conditions: none.
  The frame of a law's proof, where the size of what is handed in is asked; slices of slices, read. Conditions: none.
  More of the frame: a slice of one's own as a block in plain sight; append in place and into a new block; clear; parts that are there, whichever they be. Conditions: none.
  More of the frame: make of what has many cells; shift and or; pairs set in what is ours. Conditions: none.
  A region in which several operations that bring something of their own come up in any order. Conditions: none.
  More of the frame: pointers against nil. Conditions: none.
-/
import Derived.Test.YtdfhajdejlhamaaRows
import Derived.Test.YtdfhajdejlhamaaRowSameMg1
import Derived.WalkKit
import Derived.ProofKit
import Derived.OpenShut
import Derived.Deep.Slices
import Derived.Deep.Fields
import Derived.ChangeSame
import Derived.Carry
import Derived.Laws.CopyRow
import Derived.Laws.Small
import Derived.Scope
import Derived.SizedLaws
import Derived.Deep.Matrix
import Derived.Lib.Overlaps
import Derived.Laws.Cover3
import Derived.Laws.Pointers
namespace Go.Proofs.Ytdfhajdejlhamaa
open Go Go.Fw
set_option maxRecDepth 100000
instance : TSc Try.prog 1 := ⟨_, Try.underlying1, rfl⟩
instance : TIf Try.prog 1 .nilFunc [.nilFunc] 1 8 := ⟨⟨Try.t1, rfl, rfl, rfl, rfl⟩, rfl⟩
instance : TSc Try.prog 2 := ⟨_, Try.underlying2, rfl⟩
instance : TIn Try.prog 2 .i64 := ⟨Try.underlying2⟩
instance : TIf Try.prog 2 (.int .i64 0) [(.int .i64 0)] 1 8 := ⟨⟨Try.t2, rfl, rfl, rfl, rfl⟩, rfl⟩
instance : TSc Try.prog 3 := ⟨_, Try.underlying3, rfl⟩
instance : TIn Try.prog 3 .i64 := ⟨Try.underlying3⟩
instance : TIf Try.prog 3 (.int .i64 0) [(.int .i64 0)] 1 8 := ⟨⟨Try.t3, rfl, rfl, rfl, rfl⟩, rfl⟩
instance : TSc Try.prog 4 := ⟨_, Try.underlying4, rfl⟩
instance : TBo Try.prog 4 := ⟨Try.underlying4⟩
instance : TIf Try.prog 4 (.bool false) [(.bool false)] 1 1 := ⟨⟨Try.t4, rfl, rfl, rfl, rfl⟩, rfl⟩
instance : TSc Try.prog 5 := ⟨_, Try.underlying5, rfl⟩
instance : TIn Try.prog 5 .u8 := ⟨Try.underlying5⟩
instance : TIf Try.prog 5 (.int .u8 0) [(.int .u8 0)] 1 1 := ⟨⟨Try.t5, rfl, rfl, rfl, rfl⟩, rfl⟩
instance : TSc Try.prog 6 := ⟨_, Try.underlying6, rfl⟩
instance : TIn Try.prog 6 .u8 := ⟨Try.underlying6⟩
instance : TIf Try.prog 6 (.int .u8 0) [(.int .u8 0)] 1 1 := ⟨⟨Try.t6, rfl, rfl, rfl, rfl⟩, rfl⟩
instance : TSt Try.prog 7 [(2, 0), (3, 1), (4, 2), (6, 3)] := ⟨⟨_, Try.underlying7, rfl⟩, List.forall_mem_cons.2 ⟨⟨Try.t2, rfl, by decide⟩, List.forall_mem_cons.2 ⟨⟨Try.t3, rfl, by decide⟩, List.forall_mem_cons.2 ⟨⟨Try.t4, rfl, by decide⟩, List.forall_mem_cons.2 ⟨⟨Try.t6, rfl, by decide⟩, nofun⟩⟩⟩⟩⟩
instance : TIf Try.prog 7 (.agg #[(.int .i64 0), (.int .i64 0), (.bool false), (.int .u8 0)]) [(.int .i64 0), (.int .i64 0), (.bool false), (.int .u8 0)] 4 24 := ⟨⟨Try.t7, rfl, rfl, rfl, rfl⟩, rfl⟩
instance : TSt Try.prog 8 [(2, 0), (3, 1), (4, 2), (6, 3)] := ⟨⟨_, Try.underlying8, rfl⟩, List.forall_mem_cons.2 ⟨⟨Try.t2, rfl, by decide⟩, List.forall_mem_cons.2 ⟨⟨Try.t3, rfl, by decide⟩, List.forall_mem_cons.2 ⟨⟨Try.t4, rfl, by decide⟩, List.forall_mem_cons.2 ⟨⟨Try.t6, rfl, by decide⟩, nofun⟩⟩⟩⟩⟩
instance : TIf Try.prog 8 (.agg #[(.int .i64 0), (.int .i64 0), (.bool false), (.int .u8 0)]) [(.int .i64 0), (.int .i64 0), (.bool false), (.int .u8 0)] 4 24 := ⟨⟨Try.t8, rfl, rfl, rfl, rfl⟩, rfl⟩
instance : TSc Try.prog 9 := ⟨_, Try.underlying9, rfl⟩
instance : TSr Try.prog 9 := ⟨Try.underlying9⟩
instance : TIf Try.prog 9 (.string ByteArray.empty) [(.string ByteArray.empty)] 1 16 := ⟨⟨Try.t9, rfl, rfl, rfl, rfl⟩, rfl⟩
instance : TSc Try.prog 10 := ⟨_, Try.underlying10, rfl⟩
instance : TSr Try.prog 10 := ⟨Try.underlying10⟩
instance : TIf Try.prog 10 (.string ByteArray.empty) [(.string ByteArray.empty)] 1 16 := ⟨⟨Try.t10, rfl, rfl, rfl, rfl⟩, rfl⟩
instance : TSc Try.prog 11 := ⟨_, Try.underlying11, rfl⟩
instance : TSr Try.prog 11 := ⟨Try.underlying11⟩
instance : TIf Try.prog 11 (.string ByteArray.empty) [(.string ByteArray.empty)] 1 16 := ⟨⟨Try.t11, rfl, rfl, rfl, rfl⟩, rfl⟩
instance : TSc Try.prog 12 := ⟨_, Try.underlying12, rfl⟩
instance : TIn Try.prog 12 .u64 := ⟨Try.underlying12⟩
instance : TIf Try.prog 12 (.int .u64 0) [(.int .u64 0)] 1 8 := ⟨⟨Try.t12, rfl, rfl, rfl, rfl⟩, rfl⟩
instance : TSt Try.prog 13 [(9, 0), (12, 1)] := ⟨⟨_, Try.underlying13, rfl⟩, List.forall_mem_cons.2 ⟨⟨Try.t9, rfl, by decide⟩, List.forall_mem_cons.2 ⟨⟨Try.t12, rfl, by decide⟩, nofun⟩⟩⟩
instance : TIf Try.prog 13 (.agg #[(.string ByteArray.empty), (.int .u64 0)]) [(.string ByteArray.empty), (.int .u64 0)] 2 24 := ⟨⟨Try.t13, rfl, rfl, rfl, rfl⟩, rfl⟩
instance : TSt Try.prog 14 [(9, 0), (12, 1)] := ⟨⟨_, Try.underlying14, rfl⟩, List.forall_mem_cons.2 ⟨⟨Try.t9, rfl, by decide⟩, List.forall_mem_cons.2 ⟨⟨Try.t12, rfl, by decide⟩, nofun⟩⟩⟩
instance : TIf Try.prog 14 (.agg #[(.string ByteArray.empty), (.int .u64 0)]) [(.string ByteArray.empty), (.int .u64 0)] 2 24 := ⟨⟨Try.t14, rfl, rfl, rfl, rfl⟩, rfl⟩
instance : TSc Try.prog 15 := ⟨_, Try.underlying15, rfl⟩
instance : TPt Try.prog 15 := ⟨by unfold Program.pointee; rw [Try.underlying15]⟩
instance : TIf Try.prog 15 (.pointer none) [(.pointer none)] 1 8 := ⟨⟨Try.t15, rfl, rfl, rfl, rfl⟩, rfl⟩
instance : TSc Try.prog 16 := ⟨_, Try.underlying16, rfl⟩
instance : TPt Try.prog 16 := ⟨by unfold Program.pointee; rw [Try.underlying16]⟩
instance : TIf Try.prog 16 (.pointer none) [(.pointer none)] 1 8 := ⟨⟨Try.t16, rfl, rfl, rfl, rfl⟩, rfl⟩
instance : TSc Try.prog 17 := ⟨_, Try.underlying17, rfl⟩
instance : TPt Try.prog 17 := ⟨by unfold Program.pointee; rw [Try.underlying17]⟩
instance : TIf Try.prog 17 (.pointer none) [(.pointer none)] 1 8 := ⟨⟨Try.t17, rfl, rfl, rfl, rfl⟩, rfl⟩
instance : TSt Try.prog 18 [(17, 0)] := ⟨⟨_, Try.underlying18, rfl⟩, List.forall_mem_cons.2 ⟨⟨Try.t17, rfl, by decide⟩, nofun⟩⟩
instance : TIf Try.prog 18 (.agg #[(.pointer none)]) [(.pointer none)] 1 8 := ⟨⟨Try.t18, rfl, rfl, rfl, rfl⟩, rfl⟩
instance : TSt Try.prog 19 [(17, 0)] := ⟨⟨_, Try.underlying19, rfl⟩, List.forall_mem_cons.2 ⟨⟨Try.t17, rfl, by decide⟩, nofun⟩⟩
instance : TIf Try.prog 19 (.agg #[(.pointer none)]) [(.pointer none)] 1 8 := ⟨⟨Try.t19, rfl, rfl, rfl, rfl⟩, rfl⟩
instance : TSc Try.prog 20 := ⟨_, Try.underlying20, rfl⟩
instance : TIf Try.prog 20 .nilIface [.nilIface] 1 16 := ⟨⟨Try.t20, rfl, rfl, rfl, rfl⟩, rfl⟩
instance : TSc Try.prog 21 := ⟨_, Try.underlying21, rfl⟩
instance : TIn Try.prog 21 .i32 := ⟨Try.underlying21⟩
instance : TIf Try.prog 21 (.int .i32 0) [(.int .i32 0)] 1 4 := ⟨⟨Try.t21, rfl, rfl, rfl, rfl⟩, rfl⟩
instance : TSc Try.prog 22 := ⟨_, Try.underlying22, rfl⟩
instance : TSl Try.prog 22 30 := ⟨Try.underlying22⟩
instance : TIf Try.prog 22 (.slice none 0 0) [(.slice none 0 0)] 1 24 := ⟨⟨Try.t22, rfl, rfl, rfl, rfl⟩, rfl⟩
instance : TSc Try.prog 23 := ⟨_, Try.underlying23, rfl⟩
instance : TIf Try.prog 23 .nilFunc [.nilFunc] 1 8 := ⟨⟨Try.t23, rfl, rfl, rfl, rfl⟩, rfl⟩
instance : TSc Try.prog 24 := ⟨_, Try.underlying24, rfl⟩
instance : TPt Try.prog 24 := ⟨by unfold Program.pointee; rw [Try.underlying24]⟩
instance : TIf Try.prog 24 (.pointer none) [(.pointer none)] 1 8 := ⟨⟨Try.t24, rfl, rfl, rfl, rfl⟩, rfl⟩
instance : TSc Try.prog 25 := ⟨_, Try.underlying25, rfl⟩
instance : TIf Try.prog 25 .nilFunc [.nilFunc] 1 8 := ⟨⟨Try.t25, rfl, rfl, rfl, rfl⟩, rfl⟩
instance : TSc Try.prog 26 := ⟨_, Try.underlying26, rfl⟩
instance : TPt Try.prog 26 := ⟨by unfold Program.pointee; rw [Try.underlying26]⟩
instance : TIf Try.prog 26 (.pointer none) [(.pointer none)] 1 8 := ⟨⟨Try.t26, rfl, rfl, rfl, rfl⟩, rfl⟩
instance : TSc Try.prog 27 := ⟨_, Try.underlying27, rfl⟩
instance : TIf Try.prog 27 .nilFunc [.nilFunc] 1 8 := ⟨⟨Try.t27, rfl, rfl, rfl, rfl⟩, rfl⟩
instance : TSc Try.prog 28 := ⟨_, Try.underlying28, rfl⟩
instance : TSl Try.prog 28 33 := ⟨Try.underlying28⟩
instance : TIf Try.prog 28 (.slice none 0 0) [(.slice none 0 0)] 1 24 := ⟨⟨Try.t28, rfl, rfl, rfl, rfl⟩, rfl⟩
instance : TSt Try.prog 29 [(3, 0), (3, 1), (3, 2), (3, 3), (3, 4), (9, 5)] := ⟨⟨_, Try.underlying29, rfl⟩, List.forall_mem_cons.2 ⟨⟨Try.t3, rfl, by decide⟩, List.forall_mem_cons.2 ⟨⟨Try.t3, rfl, by decide⟩, List.forall_mem_cons.2 ⟨⟨Try.t3, rfl, by decide⟩, List.forall_mem_cons.2 ⟨⟨Try.t3, rfl, by decide⟩, List.forall_mem_cons.2 ⟨⟨Try.t3, rfl, by decide⟩, List.forall_mem_cons.2 ⟨⟨Try.t9, rfl, by decide⟩, nofun⟩⟩⟩⟩⟩⟩⟩
instance : TIf Try.prog 29 (.agg #[(.int .i64 0), (.int .i64 0), (.int .i64 0), (.int .i64 0), (.int .i64 0), (.string ByteArray.empty)]) [(.int .i64 0), (.int .i64 0), (.int .i64 0), (.int .i64 0), (.int .i64 0), (.string ByteArray.empty)] 6 56 := ⟨⟨Try.t29, rfl, rfl, rfl, rfl⟩, rfl⟩
instance : TSt Try.prog 30 [(3, 0), (3, 1), (3, 2), (3, 3), (3, 4), (9, 5)] := ⟨⟨_, Try.underlying30, rfl⟩, List.forall_mem_cons.2 ⟨⟨Try.t3, rfl, by decide⟩, List.forall_mem_cons.2 ⟨⟨Try.t3, rfl, by decide⟩, List.forall_mem_cons.2 ⟨⟨Try.t3, rfl, by decide⟩, List.forall_mem_cons.2 ⟨⟨Try.t3, rfl, by decide⟩, List.forall_mem_cons.2 ⟨⟨Try.t3, rfl, by decide⟩, List.forall_mem_cons.2 ⟨⟨Try.t9, rfl, by decide⟩, nofun⟩⟩⟩⟩⟩⟩⟩
instance : TIf Try.prog 30 (.agg #[(.int .i64 0), (.int .i64 0), (.int .i64 0), (.int .i64 0), (.int .i64 0), (.string ByteArray.empty)]) [(.int .i64 0), (.int .i64 0), (.int .i64 0), (.int .i64 0), (.int .i64 0), (.string ByteArray.empty)] 6 56 := ⟨⟨Try.t30, rfl, rfl, rfl, rfl⟩, rfl⟩
instance : TSc Try.prog 31 := ⟨_, Try.underlying31, rfl⟩
instance : TIf Try.prog 31 .nilFunc [.nilFunc] 1 8 := ⟨⟨Try.t31, rfl, rfl, rfl, rfl⟩, rfl⟩
instance : TSc Try.prog 32 := ⟨_, Try.underlying32, rfl⟩
instance : TIn Try.prog 32 .u64 := ⟨Try.underlying32⟩
instance : TIf Try.prog 32 (.int .u64 0) [(.int .u64 0)] 1 8 := ⟨⟨Try.t32, rfl, rfl, rfl, rfl⟩, rfl⟩
instance : TSc Try.prog 33 := ⟨_, Try.underlying33, rfl⟩
instance : TIn Try.prog 33 .u64 := ⟨Try.underlying33⟩
instance : TIf Try.prog 33 (.int .u64 0) [(.int .u64 0)] 1 8 := ⟨⟨Try.t33, rfl, rfl, rfl, rfl⟩, rfl⟩
instance : TSc Try.prog 34 := ⟨_, Try.underlying34, rfl⟩
instance : TIn Try.prog 34 .i64 := ⟨Try.underlying34⟩
instance : TIf Try.prog 34 (.int .i64 0) [(.int .i64 0)] 1 8 := ⟨⟨Try.t34, rfl, rfl, rfl, rfl⟩, rfl⟩
instance : TSc Try.prog 36 := ⟨_, Try.underlying36, rfl⟩
instance : TIf Try.prog 36 .nilFunc [.nilFunc] 1 8 := ⟨⟨Try.t36, rfl, rfl, rfl, rfl⟩, rfl⟩
instance : TSc Try.prog 37 := ⟨_, Try.underlying37, rfl⟩
instance : TIf Try.prog 37 .nilFunc [.nilFunc] 1 8 := ⟨⟨Try.t37, rfl, rfl, rfl, rfl⟩, rfl⟩
instance : TSc Try.prog 38 := ⟨_, Try.underlying38, rfl⟩
instance : TIf Try.prog 38 .nilFunc [.nilFunc] 1 8 := ⟨⟨Try.t38, rfl, rfl, rfl, rfl⟩, rfl⟩
instance : TSc Try.prog 39 := ⟨_, Try.underlying39, rfl⟩
instance : TIf Try.prog 39 .nilFunc [.nilFunc] 1 8 := ⟨⟨Try.t39, rfl, rfl, rfl, rfl⟩, rfl⟩
instance : TSc Try.prog 40 := ⟨_, Try.underlying40, rfl⟩
instance : TIf Try.prog 40 .nilFunc [.nilFunc] 1 8 := ⟨⟨Try.t40, rfl, rfl, rfl, rfl⟩, rfl⟩
instance : TSc Try.prog 41 := ⟨_, Try.underlying41, rfl⟩
instance : TIf Try.prog 41 .nilFunc [.nilFunc] 1 8 := ⟨⟨Try.t41, rfl, rfl, rfl, rfl⟩, rfl⟩
instance : TSc Try.prog 42 := ⟨_, Try.underlying42, rfl⟩
instance : TIf Try.prog 42 .nilFunc [.nilFunc] 1 8 := ⟨⟨Try.t42, rfl, rfl, rfl, rfl⟩, rfl⟩
instance : TSc Try.prog 43 := ⟨_, Try.underlying43, rfl⟩
instance : TIn Try.prog 43 .u64 := ⟨Try.underlying43⟩
instance : TIf Try.prog 43 (.int .u64 0) [(.int .u64 0)] 1 8 := ⟨⟨Try.t43, rfl, rfl, rfl, rfl⟩, rfl⟩
instance : TSc Try.prog 44 := ⟨_, Try.underlying44, rfl⟩
instance : TSl Try.prog 44 3 := ⟨Try.underlying44⟩
instance : TIf Try.prog 44 (.slice none 0 0) [(.slice none 0 0)] 1 24 := ⟨⟨Try.t44, rfl, rfl, rfl, rfl⟩, rfl⟩
instance : TSc Try.prog 45 := ⟨_, Try.underlying45, rfl⟩
instance : TIf Try.prog 45 .nilFunc [.nilFunc] 1 8 := ⟨⟨Try.t45, rfl, rfl, rfl, rfl⟩, rfl⟩
instance : TSc Try.prog 46 := ⟨_, Try.underlying46, rfl⟩
instance : TPt Try.prog 46 := ⟨by unfold Program.pointee; rw [Try.underlying46]⟩
instance : TIf Try.prog 46 (.pointer none) [(.pointer none)] 1 8 := ⟨⟨Try.t46, rfl, rfl, rfl, rfl⟩, rfl⟩
instance : TSt Try.prog 47 [(46, 0), (3, 1), (44, 2), (44, 3), (3, 4)] := ⟨⟨_, Try.underlying47, rfl⟩, List.forall_mem_cons.2 ⟨⟨Try.t46, rfl, by decide⟩, List.forall_mem_cons.2 ⟨⟨Try.t3, rfl, by decide⟩, List.forall_mem_cons.2 ⟨⟨Try.t44, rfl, by decide⟩, List.forall_mem_cons.2 ⟨⟨Try.t44, rfl, by decide⟩, List.forall_mem_cons.2 ⟨⟨Try.t3, rfl, by decide⟩, nofun⟩⟩⟩⟩⟩⟩
instance : TIf Try.prog 47 (.agg #[(.pointer none), (.int .i64 0), (.slice none 0 0), (.slice none 0 0), (.int .i64 0)]) [(.pointer none), (.int .i64 0), (.slice none 0 0), (.slice none 0 0), (.int .i64 0)] 5 72 := ⟨⟨Try.t47, rfl, rfl, rfl, rfl⟩, rfl⟩
instance : TSt Try.prog 48 [(46, 0), (3, 1), (44, 2), (44, 3), (3, 4)] := ⟨⟨_, Try.underlying48, rfl⟩, List.forall_mem_cons.2 ⟨⟨Try.t46, rfl, by decide⟩, List.forall_mem_cons.2 ⟨⟨Try.t3, rfl, by decide⟩, List.forall_mem_cons.2 ⟨⟨Try.t44, rfl, by decide⟩, List.forall_mem_cons.2 ⟨⟨Try.t44, rfl, by decide⟩, List.forall_mem_cons.2 ⟨⟨Try.t3, rfl, by decide⟩, nofun⟩⟩⟩⟩⟩⟩
instance : TIf Try.prog 48 (.agg #[(.pointer none), (.int .i64 0), (.slice none 0 0), (.slice none 0 0), (.int .i64 0)]) [(.pointer none), (.int .i64 0), (.slice none 0 0), (.slice none 0 0), (.int .i64 0)] 5 72 := ⟨⟨Try.t48, rfl, rfl, rfl, rfl⟩, rfl⟩
instance : TSc Try.prog 49 := ⟨_, Try.underlying49, rfl⟩
instance : TPt Try.prog 49 := ⟨by unfold Program.pointee; rw [Try.underlying49]⟩
instance : TIf Try.prog 49 (.pointer none) [(.pointer none)] 1 8 := ⟨⟨Try.t49, rfl, rfl, rfl, rfl⟩, rfl⟩
instance : TSt Try.prog 50 [(49, 0), (3, 1)] := ⟨⟨_, Try.underlying50, rfl⟩, List.forall_mem_cons.2 ⟨⟨Try.t49, rfl, by decide⟩, List.forall_mem_cons.2 ⟨⟨Try.t3, rfl, by decide⟩, nofun⟩⟩⟩
instance : TIf Try.prog 50 (.agg #[(.pointer none), (.int .i64 0)]) [(.pointer none), (.int .i64 0)] 2 16 := ⟨⟨Try.t50, rfl, rfl, rfl, rfl⟩, rfl⟩
instance : TSt Try.prog 51 [(49, 0), (3, 1)] := ⟨⟨_, Try.underlying51, rfl⟩, List.forall_mem_cons.2 ⟨⟨Try.t49, rfl, by decide⟩, List.forall_mem_cons.2 ⟨⟨Try.t3, rfl, by decide⟩, nofun⟩⟩⟩
instance : TIf Try.prog 51 (.agg #[(.pointer none), (.int .i64 0)]) [(.pointer none), (.int .i64 0)] 2 16 := ⟨⟨Try.t51, rfl, rfl, rfl, rfl⟩, rfl⟩
instance : TSt Try.prog 52 [(3, 0), (3, 1), (28, 2)] := ⟨⟨_, Try.underlying52, rfl⟩, List.forall_mem_cons.2 ⟨⟨Try.t3, rfl, by decide⟩, List.forall_mem_cons.2 ⟨⟨Try.t3, rfl, by decide⟩, List.forall_mem_cons.2 ⟨⟨Try.t28, rfl, by decide⟩, nofun⟩⟩⟩⟩
instance : TIf Try.prog 52 (.agg #[(.int .i64 0), (.int .i64 0), (.slice none 0 0)]) [(.int .i64 0), (.int .i64 0), (.slice none 0 0)] 3 40 := ⟨⟨Try.t52, rfl, rfl, rfl, rfl⟩, rfl⟩
instance : TSt Try.prog 53 [(3, 0), (3, 1), (28, 2)] := ⟨⟨_, Try.underlying53, rfl⟩, List.forall_mem_cons.2 ⟨⟨Try.t3, rfl, by decide⟩, List.forall_mem_cons.2 ⟨⟨Try.t3, rfl, by decide⟩, List.forall_mem_cons.2 ⟨⟨Try.t28, rfl, by decide⟩, nofun⟩⟩⟩⟩
instance : TIf Try.prog 53 (.agg #[(.int .i64 0), (.int .i64 0), (.slice none 0 0)]) [(.int .i64 0), (.int .i64 0), (.slice none 0 0)] 3 40 := ⟨⟨Try.t53, rfl, rfl, rfl, rfl⟩, rfl⟩
instance : TSc Try.prog 54 := ⟨_, Try.underlying54, rfl⟩
instance : TSl Try.prog 54 53 := ⟨Try.underlying54⟩
instance : TIf Try.prog 54 (.slice none 0 0) [(.slice none 0 0)] 1 24 := ⟨⟨Try.t54, rfl, rfl, rfl, rfl⟩, rfl⟩
instance : TSt Try.prog 55 [(3, 0), (54, 1)] := ⟨⟨_, Try.underlying55, rfl⟩, List.forall_mem_cons.2 ⟨⟨Try.t3, rfl, by decide⟩, List.forall_mem_cons.2 ⟨⟨Try.t54, rfl, by decide⟩, nofun⟩⟩⟩
instance : TIf Try.prog 55 (.agg #[(.int .i64 0), (.slice none 0 0)]) [(.int .i64 0), (.slice none 0 0)] 2 32 := ⟨⟨Try.t55, rfl, rfl, rfl, rfl⟩, rfl⟩
instance : TSt Try.prog 56 [(3, 0), (54, 1)] := ⟨⟨_, Try.underlying56, rfl⟩, List.forall_mem_cons.2 ⟨⟨Try.t3, rfl, by decide⟩, List.forall_mem_cons.2 ⟨⟨Try.t54, rfl, by decide⟩, nofun⟩⟩⟩
instance : TIf Try.prog 56 (.agg #[(.int .i64 0), (.slice none 0 0)]) [(.int .i64 0), (.slice none 0 0)] 2 32 := ⟨⟨Try.t56, rfl, rfl, rfl, rfl⟩, rfl⟩
instance : TSc Try.prog 57 := ⟨_, Try.underlying57, rfl⟩
instance : TIf Try.prog 57 .nilFunc [.nilFunc] 1 8 := ⟨⟨Try.t57, rfl, rfl, rfl, rfl⟩, rfl⟩
instance : TSc Try.prog 59 := ⟨_, Try.underlying59, rfl⟩
instance : TIf Try.prog 59 .nilFunc [.nilFunc] 1 8 := ⟨⟨Try.t59, rfl, rfl, rfl, rfl⟩, rfl⟩
instance : TSc Try.prog 60 := ⟨_, Try.underlying60, rfl⟩
instance : TIf Try.prog 60 .nilFunc [.nilFunc] 1 8 := ⟨⟨Try.t60, rfl, rfl, rfl, rfl⟩, rfl⟩
instance : TSc Try.prog 61 := ⟨_, Try.underlying61, rfl⟩
instance : TIf Try.prog 61 .nilFunc [.nilFunc] 1 8 := ⟨⟨Try.t61, rfl, rfl, rfl, rfl⟩, rfl⟩
instance : TSc Try.prog 62 := ⟨_, Try.underlying62, rfl⟩
instance : TIf Try.prog 62 .nilFunc [.nilFunc] 1 8 := ⟨⟨Try.t62, rfl, rfl, rfl, rfl⟩, rfl⟩
instance : TSc Try.prog 64 := ⟨_, Try.underlying64, rfl⟩
instance : TIf Try.prog 64 .nilFunc [.nilFunc] 1 8 := ⟨⟨Try.t64, rfl, rfl, rfl, rfl⟩, rfl⟩
instance : TSc Try.prog 65 := ⟨_, Try.underlying65, rfl⟩
instance : TIf Try.prog 65 .nilFunc [.nilFunc] 1 8 := ⟨⟨Try.t65, rfl, rfl, rfl, rfl⟩, rfl⟩
instance : TSc Try.prog 66 := ⟨_, Try.underlying66, rfl⟩
instance : TIf Try.prog 66 .nilFunc [.nilFunc] 1 8 := ⟨⟨Try.t66, rfl, rfl, rfl, rfl⟩, rfl⟩
instance : TSc Try.prog 67 := ⟨_, Try.underlying67, rfl⟩
instance : TIf Try.prog 67 .nilFunc [.nilFunc] 1 8 := ⟨⟨Try.t67, rfl, rfl, rfl, rfl⟩, rfl⟩
instance : TSc Try.prog 68 := ⟨_, Try.underlying68, rfl⟩
instance : TPt Try.prog 68 := ⟨by unfold Program.pointee; rw [Try.underlying68]⟩
instance : TIf Try.prog 68 (.pointer none) [(.pointer none)] 1 8 := ⟨⟨Try.t68, rfl, rfl, rfl, rfl⟩, rfl⟩
instance : TSc Try.prog 69 := ⟨_, Try.underlying69, rfl⟩
instance : TSl Try.prog 69 72 := ⟨Try.underlying69⟩
instance : TIf Try.prog 69 (.slice none 0 0) [(.slice none 0 0)] 1 24 := ⟨⟨Try.t69, rfl, rfl, rfl, rfl⟩, rfl⟩
instance : TSt Try.prog 70 [(44, 0), (69, 1)] := ⟨⟨_, Try.underlying70, rfl⟩, List.forall_mem_cons.2 ⟨⟨Try.t44, rfl, by decide⟩, List.forall_mem_cons.2 ⟨⟨Try.t69, rfl, by decide⟩, nofun⟩⟩⟩
instance : TIf Try.prog 70 (.agg #[(.slice none 0 0), (.slice none 0 0)]) [(.slice none 0 0), (.slice none 0 0)] 2 48 := ⟨⟨Try.t70, rfl, rfl, rfl, rfl⟩, rfl⟩
instance : TSt Try.prog 71 [(44, 0), (69, 1)] := ⟨⟨_, Try.underlying71, rfl⟩, List.forall_mem_cons.2 ⟨⟨Try.t44, rfl, by decide⟩, List.forall_mem_cons.2 ⟨⟨Try.t69, rfl, by decide⟩, nofun⟩⟩⟩
instance : TIf Try.prog 71 (.agg #[(.slice none 0 0), (.slice none 0 0)]) [(.slice none 0 0), (.slice none 0 0)] 2 48 := ⟨⟨Try.t71, rfl, rfl, rfl, rfl⟩, rfl⟩
instance : TSc Try.prog 72 := ⟨_, Try.underlying72, rfl⟩
instance : TSl Try.prog 72 74 := ⟨Try.underlying72⟩
instance : TIf Try.prog 72 (.slice none 0 0) [(.slice none 0 0)] 1 24 := ⟨⟨Try.t72, rfl, rfl, rfl, rfl⟩, rfl⟩
instance : TSt Try.prog 73 [(4, 0), (2, 1)] := ⟨⟨_, Try.underlying73, rfl⟩, List.forall_mem_cons.2 ⟨⟨Try.t4, rfl, by decide⟩, List.forall_mem_cons.2 ⟨⟨Try.t2, rfl, by decide⟩, nofun⟩⟩⟩
instance : TIf Try.prog 73 (.agg #[(.bool false), (.int .i64 0)]) [(.bool false), (.int .i64 0)] 2 16 := ⟨⟨Try.t73, rfl, rfl, rfl, rfl⟩, rfl⟩
instance : TSt Try.prog 74 [(4, 0), (2, 1)] := ⟨⟨_, Try.underlying74, rfl⟩, List.forall_mem_cons.2 ⟨⟨Try.t4, rfl, by decide⟩, List.forall_mem_cons.2 ⟨⟨Try.t2, rfl, by decide⟩, nofun⟩⟩⟩
instance : TIf Try.prog 74 (.agg #[(.bool false), (.int .i64 0)]) [(.bool false), (.int .i64 0)] 2 16 := ⟨⟨Try.t74, rfl, rfl, rfl, rfl⟩, rfl⟩
instance : TSc Try.prog 75 := ⟨_, Try.underlying75, rfl⟩
instance : TIf Try.prog 75 .nilFunc [.nilFunc] 1 8 := ⟨⟨Try.t75, rfl, rfl, rfl, rfl⟩, rfl⟩
instance : TSc Try.prog 77 := ⟨_, Try.underlying77, rfl⟩
instance : TIf Try.prog 77 .nilFunc [.nilFunc] 1 8 := ⟨⟨Try.t77, rfl, rfl, rfl, rfl⟩, rfl⟩
instance : TSc Try.prog 78 := ⟨_, Try.underlying78, rfl⟩
instance : TIf Try.prog 78 .nilFunc [.nilFunc] 1 8 := ⟨⟨Try.t78, rfl, rfl, rfl, rfl⟩, rfl⟩
instance : TSc Try.prog 79 := ⟨_, Try.underlying79, rfl⟩
instance : TIf Try.prog 79 .nilFunc [.nilFunc] 1 8 := ⟨⟨Try.t79, rfl, rfl, rfl, rfl⟩, rfl⟩
instance : TSc Try.prog 80 := ⟨_, Try.underlying80, rfl⟩
instance : TIf Try.prog 80 .nilFunc [.nilFunc] 1 8 := ⟨⟨Try.t80, rfl, rfl, rfl, rfl⟩, rfl⟩
instance : TSc Try.prog 81 := ⟨_, Try.underlying81, rfl⟩
instance : TPt Try.prog 81 := ⟨by unfold Program.pointee; rw [Try.underlying81]⟩
instance : TIf Try.prog 81 (.pointer none) [(.pointer none)] 1 8 := ⟨⟨Try.t81, rfl, rfl, rfl, rfl⟩, rfl⟩
instance : TSc Try.prog 82 := ⟨_, Try.underlying82, rfl⟩
instance : TIf Try.prog 82 .nilFunc [.nilFunc] 1 8 := ⟨⟨Try.t82, rfl, rfl, rfl, rfl⟩, rfl⟩
instance : TSc Try.prog 83 := ⟨_, Try.underlying83, rfl⟩
instance : TPt Try.prog 83 := ⟨by unfold Program.pointee; rw [Try.underlying83]⟩
instance : TIf Try.prog 83 (.pointer none) [(.pointer none)] 1 8 := ⟨⟨Try.t83, rfl, rfl, rfl, rfl⟩, rfl⟩
instance : TSc Try.prog 84 := ⟨_, Try.underlying84, rfl⟩
instance : TIf Try.prog 84 .nilFunc [.nilFunc] 1 8 := ⟨⟨Try.t84, rfl, rfl, rfl, rfl⟩, rfl⟩
instance : TSt Try.prog 85 [(83, 0), (81, 1), (3, 2)] := ⟨⟨_, Try.underlying85, rfl⟩, List.forall_mem_cons.2 ⟨⟨Try.t83, rfl, by decide⟩, List.forall_mem_cons.2 ⟨⟨Try.t81, rfl, by decide⟩, List.forall_mem_cons.2 ⟨⟨Try.t3, rfl, by decide⟩, nofun⟩⟩⟩⟩
instance : TIf Try.prog 85 (.agg #[(.pointer none), (.pointer none), (.int .i64 0)]) [(.pointer none), (.pointer none), (.int .i64 0)] 3 24 := ⟨⟨Try.t85, rfl, rfl, rfl, rfl⟩, rfl⟩
instance : TSt Try.prog 86 [(83, 0), (81, 1), (3, 2)] := ⟨⟨_, Try.underlying86, rfl⟩, List.forall_mem_cons.2 ⟨⟨Try.t83, rfl, by decide⟩, List.forall_mem_cons.2 ⟨⟨Try.t81, rfl, by decide⟩, List.forall_mem_cons.2 ⟨⟨Try.t3, rfl, by decide⟩, nofun⟩⟩⟩⟩
instance : TIf Try.prog 86 (.agg #[(.pointer none), (.pointer none), (.int .i64 0)]) [(.pointer none), (.pointer none), (.int .i64 0)] 3 24 := ⟨⟨Try.t86, rfl, rfl, rfl, rfl⟩, rfl⟩
instance : TSc Try.prog 87 := ⟨_, Try.underlying87, rfl⟩
instance : TIf Try.prog 87 .nilFunc [.nilFunc] 1 8 := ⟨⟨Try.t87, rfl, rfl, rfl, rfl⟩, rfl⟩
instance : TSc Try.prog 88 := ⟨_, Try.underlying88, rfl⟩
instance : TIf Try.prog 88 .nilFunc [.nilFunc] 1 8 := ⟨⟨Try.t88, rfl, rfl, rfl, rfl⟩, rfl⟩
instance : TSc Try.prog 89 := ⟨_, Try.underlying89, rfl⟩
instance : TIf Try.prog 89 .nilFunc [.nilFunc] 1 8 := ⟨⟨Try.t89, rfl, rfl, rfl, rfl⟩, rfl⟩
instance : TSc Try.prog 90 := ⟨_, Try.underlying90, rfl⟩
instance : TIf Try.prog 90 .nilFunc [.nilFunc] 1 8 := ⟨⟨Try.t90, rfl, rfl, rfl, rfl⟩, rfl⟩
instance : TSc Try.prog 91 := ⟨_, Try.underlying91, rfl⟩
instance : TSl Try.prog 91 5 := ⟨Try.underlying91⟩
instance : TIf Try.prog 91 (.slice none 0 0) [(.slice none 0 0)] 1 24 := ⟨⟨Try.t91, rfl, rfl, rfl, rfl⟩, rfl⟩
instance : TSc Try.prog 92 := ⟨_, Try.underlying92, rfl⟩
instance : TIf Try.prog 92 .nilFunc [.nilFunc] 1 8 := ⟨⟨Try.t92, rfl, rfl, rfl, rfl⟩, rfl⟩
instance : TSc Try.prog 94 := ⟨_, Try.underlying94, rfl⟩
instance : TIf Try.prog 94 .nilFunc [.nilFunc] 1 8 := ⟨⟨Try.t94, rfl, rfl, rfl, rfl⟩, rfl⟩
instance : TSc Try.prog 96 := ⟨_, Try.underlying96, rfl⟩
instance : TIf Try.prog 96 .nilFunc [.nilFunc] 1 8 := ⟨⟨Try.t96, rfl, rfl, rfl, rfl⟩, rfl⟩
instance : TSc Try.prog 97 := ⟨_, Try.underlying97, rfl⟩
instance : TIf Try.prog 97 .nilFunc [.nilFunc] 1 8 := ⟨⟨Try.t97, rfl, rfl, rfl, rfl⟩, rfl⟩
instance : TSc Try.prog 98 := ⟨_, Try.underlying98, rfl⟩
instance : TIf Try.prog 98 .nilFunc [.nilFunc] 1 8 := ⟨⟨Try.t98, rfl, rfl, rfl, rfl⟩, rfl⟩
instance : TSc Try.prog 99 := ⟨_, Try.underlying99, rfl⟩
instance : TIf Try.prog 99 .nilFunc [.nilFunc] 1 8 := ⟨⟨Try.t99, rfl, rfl, rfl, rfl⟩, rfl⟩
instance : TSc Try.prog 100 := ⟨_, Try.underlying100, rfl⟩
instance : TIf Try.prog 100 .nilFunc [.nilFunc] 1 8 := ⟨⟨Try.t100, rfl, rfl, rfl, rfl⟩, rfl⟩
instance : TSc Try.prog 101 := ⟨_, Try.underlying101, rfl⟩
instance : TIf Try.prog 101 .nilFunc [.nilFunc] 1 8 := ⟨⟨Try.t101, rfl, rfl, rfl, rfl⟩, rfl⟩
instance : TSc Try.prog 102 := ⟨_, Try.underlying102, rfl⟩
instance : TSl Try.prog 102 113 := ⟨Try.underlying102⟩
instance : TIf Try.prog 102 (.slice none 0 0) [(.slice none 0 0)] 1 24 := ⟨⟨Try.t102, rfl, rfl, rfl, rfl⟩, rfl⟩
instance : TSt Try.prog 103 [(3, 0), (3, 1)] := ⟨⟨_, Try.underlying103, rfl⟩, List.forall_mem_cons.2 ⟨⟨Try.t3, rfl, by decide⟩, List.forall_mem_cons.2 ⟨⟨Try.t3, rfl, by decide⟩, nofun⟩⟩⟩
instance : TIf Try.prog 103 (.agg #[(.int .i64 0), (.int .i64 0)]) [(.int .i64 0), (.int .i64 0)] 2 16 := ⟨⟨Try.t103, rfl, rfl, rfl, rfl⟩, rfl⟩
instance : TSt Try.prog 104 [(3, 0), (3, 1)] := ⟨⟨_, Try.underlying104, rfl⟩, List.forall_mem_cons.2 ⟨⟨Try.t3, rfl, by decide⟩, List.forall_mem_cons.2 ⟨⟨Try.t3, rfl, by decide⟩, nofun⟩⟩⟩
instance : TIf Try.prog 104 (.agg #[(.int .i64 0), (.int .i64 0)]) [(.int .i64 0), (.int .i64 0)] 2 16 := ⟨⟨Try.t104, rfl, rfl, rfl, rfl⟩, rfl⟩
instance : TSc Try.prog 105 := ⟨_, Try.underlying105, rfl⟩
instance : TSl Try.prog 105 104 := ⟨Try.underlying105⟩
instance : TIf Try.prog 105 (.slice none 0 0) [(.slice none 0 0)] 1 24 := ⟨⟨Try.t105, rfl, rfl, rfl, rfl⟩, rfl⟩
instance : TSt Try.prog 106 [(28, 0), (102, 1), (105, 2)] := ⟨⟨_, Try.underlying106, rfl⟩, List.forall_mem_cons.2 ⟨⟨Try.t28, rfl, by decide⟩, List.forall_mem_cons.2 ⟨⟨Try.t102, rfl, by decide⟩, List.forall_mem_cons.2 ⟨⟨Try.t105, rfl, by decide⟩, nofun⟩⟩⟩⟩
instance : TIf Try.prog 106 (.agg #[(.slice none 0 0), (.slice none 0 0), (.slice none 0 0)]) [(.slice none 0 0), (.slice none 0 0), (.slice none 0 0)] 3 72 := ⟨⟨Try.t106, rfl, rfl, rfl, rfl⟩, rfl⟩
instance : TSt Try.prog 107 [(28, 0), (102, 1), (105, 2)] := ⟨⟨_, Try.underlying107, rfl⟩, List.forall_mem_cons.2 ⟨⟨Try.t28, rfl, by decide⟩, List.forall_mem_cons.2 ⟨⟨Try.t102, rfl, by decide⟩, List.forall_mem_cons.2 ⟨⟨Try.t105, rfl, by decide⟩, nofun⟩⟩⟩⟩
instance : TIf Try.prog 107 (.agg #[(.slice none 0 0), (.slice none 0 0), (.slice none 0 0)]) [(.slice none 0 0), (.slice none 0 0), (.slice none 0 0)] 3 72 := ⟨⟨Try.t107, rfl, rfl, rfl, rfl⟩, rfl⟩
instance : TSt Try.prog 108 [(81, 0), (3, 1), (91, 2), (44, 3), (3, 4)] := ⟨⟨_, Try.underlying108, rfl⟩, List.forall_mem_cons.2 ⟨⟨Try.t81, rfl, by decide⟩, List.forall_mem_cons.2 ⟨⟨Try.t3, rfl, by decide⟩, List.forall_mem_cons.2 ⟨⟨Try.t91, rfl, by decide⟩, List.forall_mem_cons.2 ⟨⟨Try.t44, rfl, by decide⟩, List.forall_mem_cons.2 ⟨⟨Try.t3, rfl, by decide⟩, nofun⟩⟩⟩⟩⟩⟩
instance : TIf Try.prog 108 (.agg #[(.pointer none), (.int .i64 0), (.slice none 0 0), (.slice none 0 0), (.int .i64 0)]) [(.pointer none), (.int .i64 0), (.slice none 0 0), (.slice none 0 0), (.int .i64 0)] 5 72 := ⟨⟨Try.t108, rfl, rfl, rfl, rfl⟩, rfl⟩
instance : TSt Try.prog 109 [(81, 0), (3, 1), (91, 2), (44, 3), (3, 4)] := ⟨⟨_, Try.underlying109, rfl⟩, List.forall_mem_cons.2 ⟨⟨Try.t81, rfl, by decide⟩, List.forall_mem_cons.2 ⟨⟨Try.t3, rfl, by decide⟩, List.forall_mem_cons.2 ⟨⟨Try.t91, rfl, by decide⟩, List.forall_mem_cons.2 ⟨⟨Try.t44, rfl, by decide⟩, List.forall_mem_cons.2 ⟨⟨Try.t3, rfl, by decide⟩, nofun⟩⟩⟩⟩⟩⟩
instance : TIf Try.prog 109 (.agg #[(.pointer none), (.int .i64 0), (.slice none 0 0), (.slice none 0 0), (.int .i64 0)]) [(.pointer none), (.int .i64 0), (.slice none 0 0), (.slice none 0 0), (.int .i64 0)] 5 72 := ⟨⟨Try.t109, rfl, rfl, rfl, rfl⟩, rfl⟩
instance : TSc Try.prog 110 := ⟨_, Try.underlying110, rfl⟩
instance : TIf Try.prog 110 .nilFunc [.nilFunc] 1 8 := ⟨⟨Try.t110, rfl, rfl, rfl, rfl⟩, rfl⟩
instance : TSc Try.prog 111 := ⟨_, Try.underlying111, rfl⟩
instance : TIf Try.prog 111 .nilFunc [.nilFunc] 1 8 := ⟨⟨Try.t111, rfl, rfl, rfl, rfl⟩, rfl⟩
instance : TSt Try.prog 112 [(3, 0), (3, 1)] := ⟨⟨_, Try.underlying112, rfl⟩, List.forall_mem_cons.2 ⟨⟨Try.t3, rfl, by decide⟩, List.forall_mem_cons.2 ⟨⟨Try.t3, rfl, by decide⟩, nofun⟩⟩⟩
instance : TIf Try.prog 112 (.agg #[(.int .i64 0), (.int .i64 0)]) [(.int .i64 0), (.int .i64 0)] 2 16 := ⟨⟨Try.t112, rfl, rfl, rfl, rfl⟩, rfl⟩
instance : TSt Try.prog 113 [(3, 0), (3, 1)] := ⟨⟨_, Try.underlying113, rfl⟩, List.forall_mem_cons.2 ⟨⟨Try.t3, rfl, by decide⟩, List.forall_mem_cons.2 ⟨⟨Try.t3, rfl, by decide⟩, nofun⟩⟩⟩
instance : TIf Try.prog 113 (.agg #[(.int .i64 0), (.int .i64 0)]) [(.int .i64 0), (.int .i64 0)] 2 16 := ⟨⟨Try.t113, rfl, rfl, rfl, rfl⟩, rfl⟩
instance : TSc Try.prog 114 := ⟨_, Try.underlying114, rfl⟩
instance : TIf Try.prog 114 .nilFunc [.nilFunc] 1 8 := ⟨⟨Try.t114, rfl, rfl, rfl, rfl⟩, rfl⟩
instance : TSc Try.prog 115 := ⟨_, Try.underlying115, rfl⟩
instance : TIf Try.prog 115 .nilFunc [.nilFunc] 1 8 := ⟨⟨Try.t115, rfl, rfl, rfl, rfl⟩, rfl⟩
instance : TSc Try.prog 116 := ⟨_, Try.underlying116, rfl⟩
instance : TIf Try.prog 116 .nilFunc [.nilFunc] 1 8 := ⟨⟨Try.t116, rfl, rfl, rfl, rfl⟩, rfl⟩
instance : TSc Try.prog 117 := ⟨_, Try.underlying117, rfl⟩
instance : TIf Try.prog 117 .nilFunc [.nilFunc] 1 8 := ⟨⟨Try.t117, rfl, rfl, rfl, rfl⟩, rfl⟩
instance : TSc Try.prog 118 := ⟨_, Try.underlying118, rfl⟩
instance : TIf Try.prog 118 .nilFunc [.nilFunc] 1 8 := ⟨⟨Try.t118, rfl, rfl, rfl, rfl⟩, rfl⟩
instance : TSc Try.prog 119 := ⟨_, Try.underlying119, rfl⟩
instance : TIf Try.prog 119 .nilFunc [.nilFunc] 1 8 := ⟨⟨Try.t119, rfl, rfl, rfl, rfl⟩, rfl⟩
instance : TSc Try.prog 121 := ⟨_, Try.underlying121, rfl⟩
instance : TIf Try.prog 121 .nilFunc [.nilFunc] 1 8 := ⟨⟨Try.t121, rfl, rfl, rfl, rfl⟩, rfl⟩
instance : TSc Try.prog 122 := ⟨_, Try.underlying122, rfl⟩
instance : TIf Try.prog 122 .nilFunc [.nilFunc] 1 8 := ⟨⟨Try.t122, rfl, rfl, rfl, rfl⟩, rfl⟩
instance : TSc Try.prog 123 := ⟨_, Try.underlying123, rfl⟩
instance : TIf Try.prog 123 .nilFunc [.nilFunc] 1 8 := ⟨⟨Try.t123, rfl, rfl, rfl, rfl⟩, rfl⟩
instance : TSc Try.prog 124 := ⟨_, Try.underlying124, rfl⟩
instance : TIf Try.prog 124 .nilFunc [.nilFunc] 1 8 := ⟨⟨Try.t124, rfl, rfl, rfl, rfl⟩, rfl⟩
instance : TSc Try.prog 125 := ⟨_, Try.underlying125, rfl⟩
instance : TIf Try.prog 125 .nilFunc [.nilFunc] 1 8 := ⟨⟨Try.t125, rfl, rfl, rfl, rfl⟩, rfl⟩
instance : TSc Try.prog 126 := ⟨_, Try.underlying126, rfl⟩
instance : TIf Try.prog 126 .nilFunc [.nilFunc] 1 8 := ⟨⟨Try.t126, rfl, rfl, rfl, rfl⟩, rfl⟩
instance : TSc Try.prog 127 := ⟨_, Try.underlying127, rfl⟩
instance : TIf Try.prog 127 .nilFunc [.nilFunc] 1 8 := ⟨⟨Try.t127, rfl, rfl, rfl, rfl⟩, rfl⟩
instance : TSc Try.prog 128 := ⟨_, Try.underlying128, rfl⟩
instance : TIf Try.prog 128 .nilFunc [.nilFunc] 1 8 := ⟨⟨Try.t128, rfl, rfl, rfl, rfl⟩, rfl⟩
instance : TSc Try.prog 129 := ⟨_, Try.underlying129, rfl⟩
instance : TIf Try.prog 129 .nilFunc [.nilFunc] 1 8 := ⟨⟨Try.t129, rfl, rfl, rfl, rfl⟩, rfl⟩
instance : TSc Try.prog 130 := ⟨_, Try.underlying130, rfl⟩
instance : TIf Try.prog 130 .nilFunc [.nilFunc] 1 8 := ⟨⟨Try.t130, rfl, rfl, rfl, rfl⟩, rfl⟩
instance : TSc Try.prog 131 := ⟨_, Try.underlying131, rfl⟩
instance : TIf Try.prog 131 .nilFunc [.nilFunc] 1 8 := ⟨⟨Try.t131, rfl, rfl, rfl, rfl⟩, rfl⟩
instance : TSc Try.prog 132 := ⟨_, Try.underlying132, rfl⟩
instance : TIf Try.prog 132 .nilFunc [.nilFunc] 1 8 := ⟨⟨Try.t132, rfl, rfl, rfl, rfl⟩, rfl⟩
instance : TSc Try.prog 133 := ⟨_, Try.underlying133, rfl⟩
instance : TIf Try.prog 133 .nilFunc [.nilFunc] 1 8 := ⟨⟨Try.t133, rfl, rfl, rfl, rfl⟩, rfl⟩
instance : TSt Try.prog 134 [(17, 0), (17, 1), (17, 2), (9, 3)] := ⟨⟨_, Try.underlying134, rfl⟩, List.forall_mem_cons.2 ⟨⟨Try.t17, rfl, by decide⟩, List.forall_mem_cons.2 ⟨⟨Try.t17, rfl, by decide⟩, List.forall_mem_cons.2 ⟨⟨Try.t17, rfl, by decide⟩, List.forall_mem_cons.2 ⟨⟨Try.t9, rfl, by decide⟩, nofun⟩⟩⟩⟩⟩
instance : TIf Try.prog 134 (.agg #[(.pointer none), (.pointer none), (.pointer none), (.string ByteArray.empty)]) [(.pointer none), (.pointer none), (.pointer none), (.string ByteArray.empty)] 4 40 := ⟨⟨Try.t134, rfl, rfl, rfl, rfl⟩, rfl⟩
instance : TSt Try.prog 135 [(17, 0), (17, 1), (17, 2), (9, 3)] := ⟨⟨_, Try.underlying135, rfl⟩, List.forall_mem_cons.2 ⟨⟨Try.t17, rfl, by decide⟩, List.forall_mem_cons.2 ⟨⟨Try.t17, rfl, by decide⟩, List.forall_mem_cons.2 ⟨⟨Try.t17, rfl, by decide⟩, List.forall_mem_cons.2 ⟨⟨Try.t9, rfl, by decide⟩, nofun⟩⟩⟩⟩⟩
instance : TIf Try.prog 135 (.agg #[(.pointer none), (.pointer none), (.pointer none), (.string ByteArray.empty)]) [(.pointer none), (.pointer none), (.pointer none), (.string ByteArray.empty)] 4 40 := ⟨⟨Try.t135, rfl, rfl, rfl, rfl⟩, rfl⟩
instance : TIf Try.prog 136 (.agg #[]) [] 0 0 := ⟨⟨Try.t136, rfl, rfl, rfl, rfl⟩, rfl⟩
instance : TIf Try.prog 137 (.agg #[]) [] 0 0 := ⟨⟨Try.t137, rfl, rfl, rfl, rfl⟩, rfl⟩
instance : TIf Try.prog 138 (.agg #[]) [] 0 0 := ⟨⟨Try.t138, rfl, rfl, rfl, rfl⟩, rfl⟩
instance : TSc Try.prog 139 := ⟨_, Try.underlying139, rfl⟩
instance : TIn Try.prog 139 .u32 := ⟨Try.underlying139⟩
instance : TIf Try.prog 139 (.int .u32 0) [(.int .u32 0)] 1 4 := ⟨⟨Try.t139, rfl, rfl, rfl, rfl⟩, rfl⟩
instance : TSc Try.prog 140 := ⟨_, Try.underlying140, rfl⟩
instance : TIn Try.prog 140 .u8 := ⟨Try.underlying140⟩
instance : TIf Try.prog 140 (.int .u8 0) [(.int .u8 0)] 1 1 := ⟨⟨Try.t140, rfl, rfl, rfl, rfl⟩, rfl⟩
instance : TSc Try.prog 141 := ⟨_, Try.underlying141, rfl⟩
instance : TIn Try.prog 141 .u8 := ⟨Try.underlying141⟩
instance : TIf Try.prog 141 (.int .u8 0) [(.int .u8 0)] 1 1 := ⟨⟨Try.t141, rfl, rfl, rfl, rfl⟩, rfl⟩
instance : TSc Try.prog 142 := ⟨_, Try.underlying142, rfl⟩
instance : TIf Try.prog 142 .nilFunc [.nilFunc] 1 8 := ⟨⟨Try.t142, rfl, rfl, rfl, rfl⟩, rfl⟩
instance : TSc Try.prog 143 := ⟨_, Try.underlying143, rfl⟩
instance : TPt Try.prog 143 := ⟨by unfold Program.pointee; rw [Try.underlying143]⟩
instance : TIf Try.prog 143 (.pointer none) [(.pointer none)] 1 8 := ⟨⟨Try.t143, rfl, rfl, rfl, rfl⟩, rfl⟩
instance : TSc Try.prog 144 := ⟨_, Try.underlying144, rfl⟩
instance : TIn Try.prog 144 .i32 := ⟨Try.underlying144⟩
instance : TIf Try.prog 144 (.int .i32 0) [(.int .i32 0)] 1 4 := ⟨⟨Try.t144, rfl, rfl, rfl, rfl⟩, rfl⟩
instance : TSc Try.prog 145 := ⟨_, Try.underlying145, rfl⟩
instance : TIn Try.prog 145 .i32 := ⟨Try.underlying145⟩
instance : TIf Try.prog 145 (.int .i32 0) [(.int .i32 0)] 1 4 := ⟨⟨Try.t145, rfl, rfl, rfl, rfl⟩, rfl⟩
instance : TSt Try.prog 146 [(12, 0), (12, 1), (139, 2), (140, 3), (5, 4), (5, 5), (141, 6), (142, 7), (143, 8), (144, 9), (145, 10)] := ⟨⟨_, Try.underlying146, rfl⟩, List.forall_mem_cons.2 ⟨⟨Try.t12, rfl, by decide⟩, List.forall_mem_cons.2 ⟨⟨Try.t12, rfl, by decide⟩, List.forall_mem_cons.2 ⟨⟨Try.t139, rfl, by decide⟩, List.forall_mem_cons.2 ⟨⟨Try.t140, rfl, by decide⟩, List.forall_mem_cons.2 ⟨⟨Try.t5, rfl, by decide⟩, List.forall_mem_cons.2 ⟨⟨Try.t5, rfl, by decide⟩, List.forall_mem_cons.2 ⟨⟨Try.t141, rfl, by decide⟩, List.forall_mem_cons.2 ⟨⟨Try.t142, rfl, by decide⟩, List.forall_mem_cons.2 ⟨⟨Try.t143, rfl, by decide⟩, List.forall_mem_cons.2 ⟨⟨Try.t144, rfl, by decide⟩, List.forall_mem_cons.2 ⟨⟨Try.t145, rfl, by decide⟩, nofun⟩⟩⟩⟩⟩⟩⟩⟩⟩⟩⟩⟩
instance : TIf Try.prog 146 (.agg #[(.int .u64 0), (.int .u64 0), (.int .u32 0), (.int .u8 0), (.int .u8 0), (.int .u8 0), (.int .u8 0), .nilFunc, (.pointer none), (.int .i32 0), (.int .i32 0)]) [(.int .u64 0), (.int .u64 0), (.int .u32 0), (.int .u8 0), (.int .u8 0), (.int .u8 0), (.int .u8 0), .nilFunc, (.pointer none), (.int .i32 0), (.int .i32 0)] 11 48 := ⟨⟨Try.t146, rfl, rfl, rfl, rfl⟩, rfl⟩
instance : TSt Try.prog 147 [(12, 0), (12, 1), (139, 2), (140, 3), (5, 4), (5, 5), (141, 6), (142, 7), (143, 8), (144, 9), (145, 10)] := ⟨⟨_, Try.underlying147, rfl⟩, List.forall_mem_cons.2 ⟨⟨Try.t12, rfl, by decide⟩, List.forall_mem_cons.2 ⟨⟨Try.t12, rfl, by decide⟩, List.forall_mem_cons.2 ⟨⟨Try.t139, rfl, by decide⟩, List.forall_mem_cons.2 ⟨⟨Try.t140, rfl, by decide⟩, List.forall_mem_cons.2 ⟨⟨Try.t5, rfl, by decide⟩, List.forall_mem_cons.2 ⟨⟨Try.t5, rfl, by decide⟩, List.forall_mem_cons.2 ⟨⟨Try.t141, rfl, by decide⟩, List.forall_mem_cons.2 ⟨⟨Try.t142, rfl, by decide⟩, List.forall_mem_cons.2 ⟨⟨Try.t143, rfl, by decide⟩, List.forall_mem_cons.2 ⟨⟨Try.t144, rfl, by decide⟩, List.forall_mem_cons.2 ⟨⟨Try.t145, rfl, by decide⟩, nofun⟩⟩⟩⟩⟩⟩⟩⟩⟩⟩⟩⟩
instance : TIf Try.prog 147 (.agg #[(.int .u64 0), (.int .u64 0), (.int .u32 0), (.int .u8 0), (.int .u8 0), (.int .u8 0), (.int .u8 0), .nilFunc, (.pointer none), (.int .i32 0), (.int .i32 0)]) [(.int .u64 0), (.int .u64 0), (.int .u32 0), (.int .u8 0), (.int .u8 0), (.int .u8 0), (.int .u8 0), .nilFunc, (.pointer none), (.int .i32 0), (.int .i32 0)] 11 48 := ⟨⟨Try.t147, rfl, rfl, rfl, rfl⟩, rfl⟩
instance : FnB Try.prog 2 := ⟨_, Try.func2, rfl, by kernel_rfl⟩
instance : FnB Try.prog 3 := ⟨_, Try.func3, rfl, by kernel_rfl⟩
instance : FnB Try.prog 4 := ⟨_, Try.func4, rfl, by kernel_rfl⟩
instance : FnB Try.prog 5 := ⟨_, Try.func5, rfl, by kernel_rfl⟩
instance : FnB Try.prog 6 := ⟨_, Try.func6, rfl, by kernel_rfl⟩
instance : FnB Try.prog 7 := ⟨_, Try.func7, rfl, by kernel_rfl⟩
instance : FnB Try.prog 8 := ⟨_, Try.func8, rfl, by kernel_rfl⟩
instance : FnB Try.prog 9 := ⟨_, Try.func9, rfl, by kernel_rfl⟩
instance : FnB Try.prog 10 := ⟨_, Try.func10, rfl, by kernel_rfl⟩
instance : FnB Try.prog 11 := ⟨_, Try.func11, rfl, by kernel_rfl⟩
instance : FnB Try.prog 12 := ⟨_, Try.func12, rfl, by kernel_rfl⟩
instance : FnB Try.prog 13 := ⟨_, Try.func13, rfl, by kernel_rfl⟩
instance : FnB Try.prog 14 := ⟨_, Try.func14, rfl, by kernel_rfl⟩
instance : FnB Try.prog 15 := ⟨_, Try.func15, rfl, by kernel_rfl⟩
instance : FnB Try.prog 16 := ⟨_, Try.func16, rfl, by kernel_rfl⟩
instance : FnB Try.prog 17 := ⟨_, Try.func17, rfl, by kernel_rfl⟩
instance : FnB Try.prog 18 := ⟨_, Try.func18, rfl, by kernel_rfl⟩
instance : FnB Try.prog 19 := ⟨_, Try.func19, rfl, by kernel_rfl⟩
instance : FnB Try.prog 20 := ⟨_, Try.func20, rfl, by kernel_rfl⟩
instance : FnB Try.prog 21 := ⟨_, Try.func21, rfl, by kernel_rfl⟩
instance : FnB Try.prog 22 := ⟨_, Try.func22, rfl, by kernel_rfl⟩
instance : FnB Try.prog 23 := ⟨_, Try.func23, rfl, by kernel_rfl⟩
instance : FnB Try.prog 24 := ⟨_, Try.func24, rfl, by kernel_rfl⟩
instance : FnB Try.prog 25 := ⟨_, Try.func25, rfl, by kernel_rfl⟩
instance : FnB Try.prog 26 := ⟨_, Try.func26, rfl, by kernel_rfl⟩
instance : FnB Try.prog 27 := ⟨_, Try.func27, rfl, by kernel_rfl⟩
instance : FnB Try.prog 28 := ⟨_, Try.func28, rfl, by kernel_rfl⟩
instance : FnB Try.prog 29 := ⟨_, Try.func29, rfl, by kernel_rfl⟩
instance : FnB Try.prog 30 := ⟨_, Try.func30, rfl, by kernel_rfl⟩
instance : FnB Try.prog 31 := ⟨_, Try.func31, rfl, by kernel_rfl⟩
instance : FnB Try.prog 32 := ⟨_, Try.func32, rfl, by kernel_rfl⟩
instance : FnB Try.prog 33 := ⟨_, Try.func33, rfl, by kernel_rfl⟩
instance : FnB Try.prog 34 := ⟨_, Try.func34, rfl, by kernel_rfl⟩
instance : FnB Try.prog 35 := ⟨_, Try.func35, rfl, by kernel_rfl⟩
instance : FnB Try.prog 36 := ⟨_, Try.func36, rfl, by kernel_rfl⟩
instance : FnB Try.prog 37 := ⟨_, Try.func37, rfl, by kernel_rfl⟩
instance : FnB Try.prog 38 := ⟨_, Try.func38, rfl, by kernel_rfl⟩
instance : FnB Try.prog 39 := ⟨_, Try.func39, rfl, by kernel_rfl⟩
instance : FnB Try.prog 40 := ⟨_, Try.func40, rfl, by kernel_rfl⟩
instance : FnB Try.prog 41 := ⟨_, Try.func41, rfl, by kernel_rfl⟩
instance : FnB Try.prog 42 := ⟨_, Try.func42, rfl, by kernel_rfl⟩
instance : FnB Try.prog 43 := ⟨_, Try.func43, rfl, by kernel_rfl⟩
instance : FnB Try.prog 44 := ⟨_, Try.func44, rfl, by kernel_rfl⟩
instance : FnB Try.prog 45 := ⟨_, Try.func45, rfl, by kernel_rfl⟩
instance : FnB Try.prog 46 := ⟨_, Try.func46, rfl, by kernel_rfl⟩
instance : FnB Try.prog 47 := ⟨_, Try.func47, rfl, by kernel_rfl⟩
instance : FnB Try.prog 48 := ⟨_, Try.func48, rfl, by kernel_rfl⟩
instance : FnB Try.prog 49 := ⟨_, Try.func49, rfl, by kernel_rfl⟩
instance : FnB Try.prog 50 := ⟨_, Try.func50, rfl, by kernel_rfl⟩
instance : FnB Try.prog 51 := ⟨_, Try.func51, rfl, by kernel_rfl⟩
instance : FnB Try.prog 52 := ⟨_, Try.func52, rfl, by kernel_rfl⟩
instance : FnB Try.prog 53 := ⟨_, Try.func53, rfl, by kernel_rfl⟩
instance : FnB Try.prog 54 := ⟨_, Try.func54, rfl, by kernel_rfl⟩
instance : FnB Try.prog 55 := ⟨_, Try.func55, rfl, by kernel_rfl⟩
instance : FnB Try.prog 56 := ⟨_, Try.func56, rfl, by kernel_rfl⟩
instance : FnB Try.prog 57 := ⟨_, Try.func57, rfl, by kernel_rfl⟩
instance : FnB Try.prog 58 := ⟨_, Try.func58, rfl, by kernel_rfl⟩
instance : FnB Try.prog 59 := ⟨_, Try.func59, rfl, by kernel_rfl⟩
instance : FnB Try.prog 60 := ⟨_, Try.func60, rfl, by kernel_rfl⟩
instance : FnB Try.prog 61 := ⟨_, Try.func61, rfl, by kernel_rfl⟩
instance : FnB Try.prog 62 := ⟨_, Try.func62, rfl, by kernel_rfl⟩
instance : FnB Try.prog 63 := ⟨_, Try.func63, rfl, by kernel_rfl⟩
instance : FnB Try.prog 64 := ⟨_, Try.func64, rfl, by kernel_rfl⟩
instance : FnB Try.prog 65 := ⟨_, Try.func65, rfl, by kernel_rfl⟩
instance : FnB Try.prog 66 := ⟨_, Try.func66, rfl, by kernel_rfl⟩
instance : FnB Try.prog 67 := ⟨_, Try.func67, rfl, by kernel_rfl⟩
instance : FnB Try.prog 68 := ⟨_, Try.func68, rfl, by kernel_rfl⟩
instance : FnB Try.prog 69 := ⟨_, Try.func69, rfl, by kernel_rfl⟩
instance : FnB Try.prog 70 := ⟨_, Try.func70, rfl, by kernel_rfl⟩
instance : FnB Try.prog 71 := ⟨_, Try.func71, rfl, by kernel_rfl⟩
instance : FnB Try.prog 72 := ⟨_, Try.func72, rfl, by kernel_rfl⟩
instance : FnB Try.prog 73 := ⟨_, Try.func73, rfl, by kernel_rfl⟩
instance : FnB Try.prog 74 := ⟨_, Try.func74, rfl, by kernel_rfl⟩
instance : FnB Try.prog 75 := ⟨_, Try.func75, rfl, by kernel_rfl⟩
instance : FnB Try.prog 76 := ⟨_, Try.func76, rfl, by kernel_rfl⟩
instance : FnB Try.prog 77 := ⟨_, Try.func77, rfl, by kernel_rfl⟩
instance : FnB Try.prog 78 := ⟨_, Try.func78, rfl, by kernel_rfl⟩
instance : FnB Try.prog 79 := ⟨_, Try.func79, rfl, by kernel_rfl⟩
instance : FnB Try.prog 80 := ⟨_, Try.func80, rfl, by kernel_rfl⟩
instance : FnB Try.prog 81 := ⟨_, Try.func81, rfl, by kernel_rfl⟩
instance : FnB Try.prog 82 := ⟨_, Try.func82, rfl, by kernel_rfl⟩
instance : FnB Try.prog 83 := ⟨_, Try.func83, rfl, by kernel_rfl⟩
instance : FnB Try.prog 84 := ⟨_, Try.func84, rfl, by kernel_rfl⟩
instance : FnB Try.prog 85 := ⟨_, Try.func85, rfl, by kernel_rfl⟩
instance : FnB Try.prog 86 := ⟨_, Try.func86, rfl, by kernel_rfl⟩
instance : FnB Try.prog 87 := ⟨_, Try.func87, rfl, by kernel_rfl⟩
instance : FnB Try.prog 88 := ⟨_, Try.func88, rfl, by kernel_rfl⟩
instance : FnB Try.prog 89 := ⟨_, Try.func89, rfl, by kernel_rfl⟩
instance : FnB Try.prog 90 := ⟨_, Try.func90, rfl, by kernel_rfl⟩
instance : FnB Try.prog 91 := ⟨_, Try.func91, rfl, by kernel_rfl⟩
instance : FnB Try.prog 92 := ⟨_, Try.func92, rfl, by kernel_rfl⟩
instance : FnB Try.prog 93 := ⟨_, Try.func93, rfl, by kernel_rfl⟩
instance : FnB Try.prog 94 := ⟨_, Try.func94, rfl, by kernel_rfl⟩
instance : FnB Try.prog 95 := ⟨_, Try.func95, rfl, by kernel_rfl⟩
instance : FnB Try.prog 96 := ⟨_, Try.func96, rfl, by kernel_rfl⟩
instance : FnB Try.prog 97 := ⟨_, Try.func97, rfl, by kernel_rfl⟩
instance : FnB Try.prog 98 := ⟨_, Try.func98, rfl, by kernel_rfl⟩
instance : FnB Try.prog 99 := ⟨_, Try.func99, rfl, by kernel_rfl⟩
instance : FnB Try.prog 101 := ⟨_, Try.func101, rfl, by kernel_rfl⟩
instance : FnB Try.prog 103 := ⟨_, Try.func103, rfl, by kernel_rfl⟩
instance : FnB Try.prog 104 := ⟨_, Try.func104, rfl, by kernel_rfl⟩
instance : FnB Try.prog 105 := ⟨_, Try.func105, rfl, by kernel_rfl⟩
instance : FnB Try.prog 106 := ⟨_, Try.func106, rfl, by kernel_rfl⟩
instance : FnB Try.prog 107 := ⟨_, Try.func107, rfl, by kernel_rfl⟩
theorem mixed : Try.prog.follows .mixedOrders = true := by kernel_rfl
end Go.Proofs.Ytdfhajdejlhamaa
namespace Go.Fw
open Go Go.ChangeShapes Go.WideShapes Go.ChangeAt Go.RowKit Go.Deep
set_option linter.unusedVariables false

theorem HS.pick {w0 w : World} {M : Nat → Prop} {H : List It} {it : It} (h : HS w0 M H w) (hm : it ∈ H) : HS w0 M [it] w :=
  let ⟨_, p⟩ := mem_split hm
  (h.perm p).head
/-- what a law does for its caller -/
def LawR (w0 : World) (v : Value) (w : World) : Prop := v = .bool true ∧ Kp w0 noM w
theorem Kp.below {w0 w : World} (h : Kp w0 noM w) : Below w0.heap.size w0 w := ⟨h.os, h.tape, h.output, h.size, fun k hk => h.block k hk id⟩
section
variable {H : Type} {enc : TypeId × Value → H} {P : Program}
theorem trodAll_stays (hl : laidOutB P = true) {W W' : World} (hb : Below W.heap.size W W') : ∀ {ts : List TypeId} {vs : List Value} {ds : List (DataW H)} {ps : List MemPlace},
    (∀ t ∈ ts, P.readableRec t = true ∧ t < P.types.size) → DataW.TrodAll enc P W 0 (fun _ => true) true ts vs ds ps → (∀ x ∈ ps, x.block < W.heap.size) →
    DataW.TrodAll enc P W' 0 (fun b => decide (b < W.heap.size)) true ts vs ds ps
  | [], vs, ds, ps, _, h, _ => by
    obtain ⟨rfl, rfl, rfl⟩ := trodAll_nil h
    exact trodAll_mk0
  | t :: ts, vs, ds, ps, hr, h, hlt => by
    obtain ⟨v, vs1, d, ds1, a, b, rfl, rfl, rfl, h1, h2⟩ := trodAll_cons h
    have hlt1 : ∀ x ∈ a, x.block < W.heap.size := fun x hx => hlt x (List.mem_append.2 (.inl hx))
    have hlt2 : ∀ x ∈ b, x.block < W.heap.size := fun x hx => hlt x (List.mem_append.2 (.inr hx))
    have ht := hr t (List.mem_cons_self)
    exact trodAll_cons_mk (Below.trod hl ht.1 ht.2 h1 hb hlt1) (trodAll_stays hl hb (fun t ht => hr t (List.mem_cons_of_mem _ ht)) h2 hlt2)
theorem trodAll_len {W : World} {base : Nat} {spare : Nat → Bool} {held : Bool} : ∀ {ts : List TypeId} {vs : List Value} {ds : List (DataW H)} {ps : List MemPlace},
    DataW.TrodAll enc P W base spare held ts vs ds ps → ds.length = ts.length
  | [], vs, ds, ps, h => by
    obtain ⟨rfl, rfl, rfl⟩ := trodAll_nil h
    rfl
  | t :: ts, vs, ds, ps, h => by
    obtain ⟨v, vs1, d, ds1, a, b, rfl, rfl, rfl, h1, h2⟩ := trodAll_cons h
    simp [trodAll_len h2]
theorem law_post {f : Func} {s : ChangeSpec} {W W' : World} {args : Array Value} {ds gs : List (DataW H)} {before : List MemPlace} {tb : TypeId}
    (hl : laidOutB P = true) (hrd : f.params.toList.all (fun t => P.readableRec t && decide (t < P.types.size)) = true) (hv : s.vars = [])
    (hs : ∀ ds : List (DataW H), ds.length = f.params.size → (s.fn H (ds ++ [])).results = [.lit (.bool true)] ∧ (s.fn H (ds ++ [])).args = ds ∧ (s.fn H (ds ++ [])).vars = [])
    (hrt : f.resultTypes = #[tb]) (hb : P.underlying tb = some .bool)
    (hW : DataW.Whole enc P f.params.toList s.vars false W args.toList ds gs before) (hk : Kp W noM W') :
    s.post enc P f false true false false W args (.bool true) W' := by
  have hW' := hW
  obtain ⟨p, q, hA, hV, rfl, hfz, hnd⟩ := hW
  rw [hv] at hV
  have hg : gs = [] ∧ q = [] := by
    cases gs with
    | nil => exact ⟨rfl, hV⟩
    | cons g gs => exact hV.elim
  obtain ⟨rfl, rfl⟩ := hg
  have hlen := trodAll_len hA
  rw [Array.length_toList] at hlen
  obtain ⟨h1, h2, h3⟩ := hs ds hlen
  have hlt : ∀ x ∈ p, x.block < W.heap.size := fun x hx => by simpa using hW'.lt x (List.mem_append.2 (.inl hx))
  refine ⟨ds, [], p ++ [], [], p, [], hW', ?_, ?_, ?_, (Kp.below hk).frame _, fun h => by cases h⟩
  · rw [h1, hrt]
    exact trodAll_cons_mk (shut_bool hb _) trodAll_mk0
  · rw [h2]
    refine trodAll_stays hl (Kp.below hk) (fun t ht => ?_) hA hlt
    have := List.all_eq_true.1 hrd t ht
    simpa using this
  · rw [h3, hv]; rfl

theorem law_lifted {C : Checked} {os : Os} {f : FuncId} {fn : Func} {s : ChangeSpec} {conds : List PathCond} {tb : TypeId}
    (own : ownKnob C.prog.godebug = none) (started : os.Started) (noInit : C.prog.inits.idxOf? f = none) (hfn : C.prog.funcs[f]? = some fn)
    (witness : ∃ (w : World) (tape : Tape) (i : Input), w.os = os ∧ (w.forCall tape i).Shaped C.prog ∧ i.vars = [] ∧ Input.okWide C.prog (w.forCall tape i) .any w.heap.size f i ∧
      s.pre6 enc C.prog fn conds false (w.forCall tape i).memory i.args ∧ ({} : Assume).holds C.prog (lone (Frame.enter C.prog f i.args .normal) [] (w.forCall tape i)))
    (hl : laidOutB C.prog = true) (hrd : fn.params.toList.all (fun t => C.prog.readableRec t && decide (t < C.prog.types.size)) = true) (hv : s.vars = [])
    (hs : ∀ ds : List (DataW H), ds.length = fn.params.size → (s.fn H (ds ++ [])).results = [.lit (.bool true)] ∧ (s.fn H (ds ++ [])).args = ds ∧ (s.fn H (ds ++ [])).vars = [])
    (hrt : fn.resultTypes = #[tb]) (hb : C.prog.underlying tb = some .bool)
    (walk : ∀ (W : World) (base : Nat) (args : Array Value) (ds : List (DataW H)) (p : List MemPlace),
      (∀ (j : Nat) t v, fn.params[j]? = some t → args[j]? = some v → Value.okWide C.prog W .any base t v) →
      DataW.TrodAll enc C.prog W 0 (fun _ => true) true fn.params.toList args.toList ds p → Ret C.prog f args W (LawR W)) :
    ReturnsInHanded {} C os f .any (s.pre6 enc C.prog fn conds false) (s.post enc C.prog fn false true false false) := by
  refine returnsInHanded_of_change own started noInit hfn witness ?_
  intro W base args ds gs before hval hW _ _
  have hA := hW
  obtain ⟨p, q, hA, _⟩ := hA
  refine Calls.mono (walk W base args ds p hval hA) ?_
  rintro e W' ⟨v, rfl, rfl, hk⟩
  exact ⟨_, rfl, law_post hl hrd hv hs hrt hb hW hk⟩
end

section
variable {H : Type} {enc : TypeId × Value → H} {P : Program} {w : World} {base : Nat} {spare : Nat → Bool} {held : Bool}
/-- a slice of structs of one-cell fields, opened at each index -/
theorem open_rows {t e : TypeId} {fs : Array Field} {fuel : Nat} {cs : List Value} {x : DataW H × List MemPlace} (ht : P.underlying t = some (.slice e)) (he : P.underlying e = some (.struct fs))
    (hone : oneCellFields P fs = true) (hC : P.cellsOf e = fs.size) (h : DataW.trod enc P w base spare held fuel t cs = some x) :
    cs = [.slice none 0 0] ∨
    ∃ (a : Addr) (len cap : Nat), cs = [.slice (some a) len cap] ∧ len ≤ maxLen ∧
      ∀ i, i < len → ∀ (j : Nat) (f : Field), fs[j]? = some f → ∃ (v : Value) (y : DataW H × List MemPlace) (n : Nat), w.cell? (a.add (i * fs.size + j)) = some v ∧ DataW.trod enc P w base spare held n f.type [v] = some y := by
  rcases open_slice ht h with h0 | ⟨a, len, cap, m, n, D, Pl, hcs, hb, hl, hm, hmm, hx, hi⟩
  · exact .inl h0.1
  · refine .inr ⟨a, len, cap, hcs, Nat.le_trans hl hm, fun i him j f hj => ?_⟩
    have hlm : len ≤ m := by rw [hmm]; split <;> omega
    obtain ⟨cs', hc, ht'⟩ := hi i (by omega)
    rw [hC] at hc
    obtain ⟨ys, n', hn', hy, hlen, hyl, hf⟩ := DataW.trod_struct he ht'
    obtain ⟨_, hcl, hat⟩ := World.cells?_some hc
    obtain ⟨ho, hk⟩ := hone_of hone j f hj
    have hjl : j < fs.size := (Array.getElem?_eq_some_iff.1 hj).1
    have hcell := hat j hjl
    have hv : cs'[j]? = some (cs'[j]'(by omega)) := List.getElem?_eq_getElem (by omega)
    have h1 := hf j f hj
    rw [ho, hk] at h1
    have hone' : (cs'.drop j).take 1 = [cs'[j]'(by omega)] := by
      rw [List.drop_eq_getElem_cons (by omega)]
      rfl
    rw [hone'] at h1
    have hys : ys[j]? = some (ys[j]'(by omega)) := List.getElem?_eq_getElem (by omega)
    refine ⟨_, _, n', ?_, h1.trans hys⟩
    rw [← Go.Deep.add_add, hcell, hv]
theorem choose_list {α : Type} (p : Nat → α → Prop) : ∀ n : Nat, (∀ i, i < n → ∃ x, p i x) → ∃ l : List α, l.length = n ∧ ∀ i x, l[i]? = some x → p i x
  | 0, _ => ⟨[], rfl, by simp⟩
  | n + 1, h => by
    obtain ⟨l, hl, hp⟩ := choose_list p n (fun i hi => h i (by omega))
    obtain ⟨x, hx⟩ := h n (by omega)
    refine ⟨l ++ [x], by simp [hl], fun i y hy => ?_⟩
    rcases Nat.lt_or_ge i n with hi | hi
    · rw [List.getElem?_append_left (by omega)] at hy
      exact hp i y hy
    · have := (List.getElem?_eq_some_iff.1 hy).1
      simp only [List.length_append, List.length_cons, List.length_nil] at this
      obtain rfl : i = n := by omega
      rw [List.getElem?_append_right (by omega), hl] at hy
      simp at hy
      exact hy ▸ hx
end
end Go.Fw
namespace Go.Fw
open Go Go.ChangeShapes Go.WideShapes Go.ChangeAt Go.RowKit Go.Deep
set_option linter.unusedVariables false
section
variable {P : Program} {N : Nat} {l : List (Nat × Value)} {C : World → Prop} {d : Option Tmp} {T : TypeId} {pos : String} {af : Array Edge} {g : Option (Nat × Bool)}
theorem ex_rem {t ty : TypeId} {x y : Operand} {k : IntKind} {m n : Int} (hx : ev l x = some (.int k m)) (hy : ev l y = some (.int k n)) (h : n ≠ 0) : Ex P N l C ⟨d, .binOp .rem t x y ty, T, pos, af, g⟩ (.int k (m.tmod n)) := by
  intro a w hA _
  simp only [execOp, hA.ev hx, hA.ev hy, eqGuard_at_int, binOp_rem]
  simp [Op.intDiv, h]
theorem ex_quo {t ty : TypeId} {x y : Operand} {k : IntKind} {m n : Int} (hx : ev l x = some (.int k m)) (hy : ev l y = some (.int k n)) (h : n ≠ 0) : Ex P N l C ⟨d, .binOp .quo t x y ty, T, pos, af, g⟩ (.int k (k.wrap (m.tdiv n))) := by
  intro a w hA _
  simp only [execOp, hA.ev hx, hA.ev hy, eqGuard_at_int, binOp_quo]
  simp [Op.intDiv, h]
theorem ex_convert {s t : TypeId} {x : Operand} {k kd ks : IntKind} {m v : Int} [hs : TIn P s ks] [ht : TIn P t kd] (hx : ev l x = some (.int k m)) (hv : kd.wrap m = v) : Ex P N l C ⟨d, .convert s t x, T, pos, af, g⟩ (.int kd v) := by
  intro a w hA _
  subst hv
  simp only [execOp, hA.ev hx, convert, Sem.run_bind, run_underlying hs.eq, run_underlying ht.eq, Result.andThen_ok, Conv.intToInt, Sem.run_pure]
end
theorem Rd.take {w : World} {o : Option Addr} {xs : List Value} (h : Rd w o xs) (k : Nat) : Rd w o (xs.take k) := by
  refine ⟨fun hp => h.1 (by rw [List.length_take] at hp; omega), fun j u hj => h.2 j u ?_⟩
  have hjk : j < k := by
    have := (List.getElem?_eq_some_iff.1 hj).1
    rw [List.length_take] at this; omega
  rwa [List.getElem?_take_of_lt hjk] at hj
section
variable {H : Type} {enc : TypeId × Value → H} {P : Program} {w : World} {base : Nat} {spare : Nat → Bool} {held : Bool}
end
end Go.Fw
namespace Go.Fw
open Go Go.RowKit
set_option linter.unusedVariables false

/-- a slice as a value: its head, its length, its room -/
abbrev Sd := Option Addr × Nat × Nat
def Sd.v (d : Sd) : Value := .slice d.1 d.2.1 d.2.2
def encS (d : Sd) : List Value := [.slice d.1 d.2.1 d.2.2]
theorem encS_len (d : Sd) : (encS d).length = 1 := rfl
/-- the slices of a slice, as they can be read -/
def RdR {α : Type} (enc : α → List Value) (w : World) (ds : List Sd) (rows : List (List α)) : Prop :=
  ds.length = rows.length ∧ ∀ (i : Nat) (d : Sd) (r : List α), ds[i]? = some d → rows[i]? = some r → d.2.1 = r.length ∧ Rd w d.1 (flat enc r)
theorem HS.rdR {α : Type} {enc : α → List Value} {w0 w : World} {M : Nat → Prop} {H : List It} {ds : List Sd} {rows : List (List α)} (h : HS w0 M H w) (hr : RdR enc w0 ds rows) (hM : M = noM) : RdR enc w ds rows := by
  subst hM
  exact ⟨hr.1, fun i d r hd hrw => ⟨(hr.2 i d r hd hrw).1, h.rd (hr.2 i d r hd hrw).2 id⟩⟩
theorem RdR.at {α : Type} {enc : α → List Value} {w : World} {ds : List Sd} {rows : List (List α)} (h : RdR enc w ds rows) {i : Nat} {r : List α} (hr : rows[i]? = some r) :
    ∃ o c, ds[i]? = some (o, r.length, c) ∧ Rd w o (flat enc r) := by
  have hlt := (List.getElem?_eq_some_iff.1 hr).1
  obtain ⟨d, hd⟩ : ∃ d, ds[i]? = some d := ⟨_, List.getElem?_eq_getElem (by rw [h.1]; exact hlt)⟩
  obtain ⟨h1, h2⟩ := h.2 i d r hd hr
  obtain ⟨o, n, c⟩ := d
  dsimp only at h1 h2
  subst h1
  exact ⟨o, c, hd, h2⟩

def andK (k : IntKind) (m n : Int) : Int := k.wrap ((BitVec.ofInt k.bits m &&& BitVec.ofInt k.bits n).toNat)
def shrK (k : IntKind) (m n : Int) : Int := m.fdiv (2 ^ (min n.toNat k.bits))

theorem HS.moreM {w0 w : World} {M M' : Nat → Prop} {H : List It} (h : HS w0 M H w) (hM : ∀ b, M b → M' b) : HS w0 M' H w := by
  obtain ⟨hk, F, hF, ho⟩ := h
  exact ⟨⟨hk.os, hk.tape, hk.output, hk.size, fun b hb hn => hk.block b hb fun h => hn (hM b h)⟩, F, hF, fun b hb => (ho b hb).imp id (hM b)⟩
/-- what a call makes that leaves all as it was -/
theorem HS.join {w0 w w' : World} {M : Nat → Prop} {H H' : List It} (h : HS w0 M H w) (h' : HS w noM H' w') : HS w0 M (H' ++ H) w' := by
  obtain ⟨Mc, h1, h2, h3⟩ := HS.frame (Hc := []) (Hf := H) h
  exact h3 w' H' (h'.moreM fun b hb => hb.elim)

/-! ## many parts as one -/
def all (L : List It) : It where
  sat w F := Hp w L F
  loc := fun h he => h.loc he
  lt := fun h b hb => h.lt b hb
  ext := fun h he => h.ext he
theorem HS.open_ {w0 w : World} {M : Nat → Prop} {L H : List It} (h : HS w0 M (all L :: H) w) : HS w0 M (L ++ H) w := by
  obtain ⟨hk, F, ⟨F1, F2, hF, hd, h1, h2⟩, ho⟩ := h
  exact ⟨hk, _, Hp.mk_append hd h1 h2, fun b hb => ho b ((hF b).2 hb)⟩
theorem HS.shut {w0 w : World} {M : Nat → Prop} {L H : List It} (h : HS w0 M (L ++ H) w) : HS w0 M (all L :: H) w := by
  obtain ⟨hk, F, hF, ho⟩ := h
  obtain ⟨F1, F2, hG, hd, h1, h2⟩ := hF.append
  exact ⟨hk, F, ⟨F1, F2, hG, hd, h1, h2⟩, ho⟩
theorem HS.openAt {w0 w : World} {M : Nat → Prop} {L H : List It} {i : Nat} {x : It} (h : HS w0 M (all L :: H) w) (hi : L[i]? = some x) : HS w0 M (x :: all (L.eraseIdx i) :: H) w := by
  have h1 := h.open_.perm ((perm_pick0 i hi).append_right H)
  have h2 : HS w0 M (L.eraseIdx i ++ (x :: H)) w := h1.perm List.perm_middle.symm
  exact h2.shut.perm (.swap _ _ _)
theorem eraseIdx_set_perm {x : It} : ∀ {L : List It} {i : Nat}, i < L.length → (x :: L.eraseIdx i).Perm (L.set i x)
  | [], i, h => by simp at h
  | y :: L, 0, h => .refl _
  | y :: L, i + 1, h => (List.Perm.swap y x _).trans ((eraseIdx_set_perm (L := L) (i := i) (by simpa using h)).cons y)
theorem HS.shutAt {w0 w : World} {M : Nat → Prop} {L H : List It} {i : Nat} {x : It} (h : HS w0 M (x :: all (L.eraseIdx i) :: H) w) (hi : i < L.length) : HS w0 M (all (L.set i x) :: H) w := by
  have h1 : HS w0 M (all (L.eraseIdx i) :: x :: H) w := h.perm (.swap _ _ _)
  have h2 : HS w0 M (x :: (L.eraseIdx i ++ H)) w := h1.open_.perm List.perm_middle
  have h3 : HS w0 M (L.set i x ++ H) w := h2.perm ((eraseIdx_set_perm hi).append_right H)
  exact h3.shut
theorem HS.in_all {w0 w : World} {M : Nat → Prop} {L H : List It} {x : It} (h : HS w0 M H w) (hm : all L ∈ H) (hx : x ∈ L) : ∃ F, x.sat w F := by
  obtain ⟨R, p⟩ := mem_split hm
  exact ((h.perm p).open_).sat (List.mem_append_left _ hx)
theorem HS.nil_all {w0 w : World} {M : Nat → Prop} {H : List It} (h : HS w0 M H w) : HS w0 M (all [] :: H) w := HS.shut (L := []) h

theorem HS.pushA {w0 w : World} {M : Nat → Prop} {L H : List It} {x : It} (h : HS w0 M (x :: all L :: H) w) : HS w0 M (all (L ++ [x]) :: H) w := by
  have h1 : HS w0 M (all L :: x :: H) w := h.perm (.swap _ _ _)
  have h2 : HS w0 M (L ++ [x] ++ H) w := by simpa using h1.open_
  exact h2.shut

/-- slices of one's own, one beside the other -/
def owns {α : Type} (T sz : Nat) (enc : α → List Value) (ds : List Sd) (rows : List (List α)) : List It := List.zipWith (fun (d : Sd) r => own T sz d.1 d.2.1 d.2.2 (flat enc r)) ds rows
theorem owns_at {α : Type} {T sz : Nat} {enc : α → List Value} {ds : List Sd} {rows : List (List α)} {i : Nat} {d : Sd} {r : List α} (hd : ds[i]? = some d) (hr : rows[i]? = some r) : (owns T sz enc ds rows)[i]? = some (own T sz d.1 d.2.1 d.2.2 (flat enc r)) := by
  simp [owns, List.getElem?_zipWith, hd, hr]
theorem owns_set {α : Type} {T sz : Nat} {enc : α → List Value} : ∀ {ds : List Sd} {rows : List (List α)} {i : Nat} {d : Sd} {r : List α}, (owns T sz enc (ds.set i d) (rows.set i r)) = (owns T sz enc ds rows).set i (own T sz d.1 d.2.1 d.2.2 (flat enc r))
  | [], rows, i, d, r => by simp [owns]
  | e :: ds, [], i, d, r => by cases i <;> simp [owns]
  | e :: ds, s :: rows, 0, d, r => by simp [owns]
  | e :: ds, s :: rows, i + 1, d, r => by
    have := owns_set (T := T) (sz := sz) (enc := enc) (ds := ds) (rows := rows) (i := i) (d := d) (r := r)
    simp only [owns] at this
    simp [owns, this]
theorem owns_snoc {α : Type} {T sz : Nat} {enc : α → List Value} {ds : List Sd} {rows : List (List α)} (h : ds.length = rows.length) (d : Sd) (r : List α) : owns T sz enc (ds ++ [d]) (rows ++ [r]) = owns T sz enc ds rows ++ [own T sz d.1 d.2.1 d.2.2 (flat enc r)] := by
  simp [owns, List.zipWith_append h]
theorem owns_length {α : Type} {T sz : Nat} {enc : α → List Value} {ds : List Sd} {rows : List (List α)} (h : ds.length = rows.length) : (owns T sz enc ds rows).length = rows.length := by simp [owns, h]
/-- what is one's own can be read -/
theorem HS.owns_rd {α : Type} {T sz : Nat} {enc : α → List Value} {ds : List Sd} {rows : List (List α)} {w0 w : World} {M : Nat → Prop} {H : List It} (h : HS w0 M H w) (hm : all (owns T sz enc ds rows) ∈ H) {i : Nat} {d : Sd} {r : List α} (hd : ds[i]? = some d) (hr : rows[i]? = some r) :
    Rd w d.1 (flat enc r) ∧ (flat enc r).length = d.2.1 * sz := by
  obtain ⟨F, hF⟩ := h.in_all hm (List.mem_of_getElem? (owns_at (T := T) (sz := sz) (enc := enc) hd hr))
  exact ⟨Fw.own_rd hF, Fw.own_len hF⟩
theorem HS.owns_rdR {α : Type} {T sz : Nat} {enc : α → List Value} {ds : List Sd} {rows : List (List α)} {w0 w : World} {M : Nat → Prop} {H : List It} (h : HS w0 M H w) (hm : all (owns T sz enc ds rows) ∈ H) (hl : ds.length = rows.length) (henc : ∀ x, (enc x).length = sz) (hsz : 0 < sz) : RdR enc w ds rows := by
  refine ⟨hl, fun i d r hd hr => ?_⟩
  obtain ⟨h1, h2⟩ := h.owns_rd hm hd hr
  refine ⟨?_, h1⟩
  rw [flat_length henc] at h2
  exact (Nat.eq_of_mul_eq_mul_right hsz h2).symm
theorem flat_set1 {α : Type} {enc : α → List Value} (henc : ∀ x, (enc x).length = 1) {l : List α} {i : Nat} (hi : i < l.length) (y : α) : Fw.put (flat enc l) i (enc y) = flat enc (l.set i y) := by
  have := flat_put henc (l := l) (i := i) (x := l[i]) (y := y) (off := 0) (vs := enc y) (List.getElem?_eq_getElem hi) (by
    unfold put
    rw [List.take_zero, List.drop_of_length_le (by rw [henc, henc]; exact Nat.le_refl _)]
    simp) (by rw [henc]; exact Nat.le_refl _)
  simpa using this
theorem flat_replicate {α : Type} {enc : α → List Value} {z : Value} {x : α} (h : enc x = [z]) : ∀ n, List.replicate n z = flat enc (List.replicate n x)
  | 0 => rfl
  | n + 1 => by
    rw [List.replicate_succ, List.replicate_succ, flat_replicate h n]
    simp [flat, h]
theorem made_flat {α : Type} {enc : α → List Value} {z : Value} {x : α} (h : enc x = [z]) (hz : z.cells = #[z]) (n : Nat) : (madeCells z.cells (n * 1)).toList.take (n * 1) = flat enc (List.replicate n x) := by
  rw [madeCells_scalar z hz, ← flat_replicate h n]
  simp

section
variable {P : Program} {N : Nat} {l : List (Nat × Value)} {C : World → Prop} {d : Option Tmp} {T : TypeId} {pos : String} {af : Array Edge} {g : Option (Nat × Bool)}
/-- make([]T, n), of one cell each -/
theorem op_make1 {α : Type} (enc : α → List Value) (x0 : α) {t e by_ : Nat} {z : Value} {zs : List Value} {x y : Operand} {kl kc : IntKind} {n : Nat} {m m' : Int} {w0 w : World} {M : Nat → Prop} {H : List It} [ht : TSl P t e] [hi : TIf P e z zs 1 by_]
    (hx : ev l x = some (.int kl m)) (hy : ev l y = some (.int kc m')) (hm : m = (n : Int)) (hm' : m' = (n : Int)) (hc : n ≤ maxLen) (hb : by_ * n ≤ 140737488355328) (he : enc x0 = [z]) (hz : z.cells = #[z]) (hH : HS w0 M H w) :
    Op1 P N l ⟨d, .makeSlice t x y, T, pos, af, g⟩ w (fun v w' => ∃ o, v = .slice o n n ∧ HS w0 M (own e 1 o n n (flat enc (List.replicate n x0)) :: H) w') := by
  subst hm; subst hm'
  have := op_makeSlice (P := P) (N := N) (l := l) (d := d) (T := T) (pos := pos) (af := af) (g := g) (t := t) (e := e) hx hy (Nat.le_refl n) hc hb hH
  rw [made_flat he hz] at this
  exact this
theorem ex_and {t ty : TypeId} {x y : Operand} {k : IntKind} {m n v : Int} (hx : ev l x = some (.int k m)) (hy : ev l y = some (.int k n)) (hv : andK k m n = v) : Ex P N l C ⟨d, .binOp .and t x y ty, T, pos, af, g⟩ (.int k v) := by
  intro a w hA _
  subst hv
  simp only [execOp, hA.ev hx, hA.ev hy, eqGuard_at_int, binOp_and]
  simp [Op.intBits, andK]
theorem ex_shr {t ty : TypeId} {x y : Operand} {k k2 : IntKind} {m n v : Int} (hx : ev l x = some (.int k m)) (hy : ev l y = some (.int k2 n)) (hn : 0 ≤ n) (hv : shrK k m n = v) : Ex P N l C ⟨d, .binOp .shr t x y ty, T, pos, af, g⟩ (.int k v) := by
  intro a w hA _
  subst hv
  simp only [execOp, hA.ev hx, hA.ev hy, eqGuard_at_int, binOp_shr]
  simp [Op.shift, shrK, show ¬ n < 0 by omega]
theorem run_eqlB {t : TypeId} [h : TBo P t] (m n : Bool) (w : World) : (Op.equal t (.bool m) (.bool n)).run P w = .ok (m == n) w := by
  exact run_equal_bool w t m n h.eq
theorem ex_eqlB {t ty : TypeId} {x y : Operand} {m n : Bool} [h : TBo P t] (hx : ev l x = some (.bool m)) (hy : ev l y = some (.bool n)) : Ex P N l C ⟨d, .binOp .eql t x y ty, T, pos, af, g⟩ (.bool (m == n)) := by
  intro a w hA _
  simp [execOp, hA.ev hx, hA.ev hy, eqGuard_at_bool, binOp, run_eqlB]
theorem ex_neqB {t ty : TypeId} {x y : Operand} {m n : Bool} [h : TBo P t] (hx : ev l x = some (.bool m)) (hy : ev l y = some (.bool n)) : Ex P N l C ⟨d, .binOp .neq t x y ty, T, pos, af, g⟩ (.bool (m != n)) := by
  intro a w hA _
  simp [execOp, hA.ev hx, hA.ev hy, eqGuard_at_bool, binOp, run_eqlB]
  cases m <;> cases n <;> rfl

theorem cl_w {w0 : World} {M : Nat → Prop} {H : List It} {b j : Nat} {v : Value} (h : w0.cell? (bat b j) = some v) (hM : ¬ M b) : Cl (HS w0 M H) (bat b j) v := fun w hH => by
  have hb : b < w0.heap.size := World.block_lt_of_cell? w0 (bat b j) h
  rw [World.cell?_of_block (w := w0) (hH.1.block b hb hM)]
  exact h
theorem HS.cellw {w0 w : World} {M : Nat → Prop} {H : List It} {b j : Nat} {v : Value} (hH : HS w0 M H w) (h : w0.cell? (bat b j) = some v) (hM : ¬ M b) : w.cell? (bat b j) = some v := cl_w h hM w hH
theorem ng_normal {Q : Exit → Act → World → Prop} {a : Act} {w : World} (h : Q .normal a w) : Exit.noGoto Q .normal a w := h
theorem ng_ret {Q : Exit → Act → World → Prop} {a : Act} {w : World} (h : Q .ret a w) : Exit.noGoto Q .ret a w := h
/-- a store of one cell into an element of what is ours -/
theorem op_set1 {α : Type} {enc : α → List Value} {y0 : α} {t by_ j Tb n cap : Nat} {o : Option Addr} {z v : Value} {zs : List Value} {x y : Operand} {li : List α} {w0 w : World} {M : Nat → Prop} {H H' : List It} [hi : TIf P t z zs 1 by_]
    (hx : ev l x = some (.pointer (some (sat o j)))) (hy : ev l y = some v) (he : enc y0 = [v]) (h1 : v.oneCell' = true) (henc : ∀ x, (enc x).length = 1) (hH : HS w0 M H w) (hr : Rp H (own Tb 1 o n cap (flat enc li)) (own Tb 1 o n cap (flat enc (li.set j y0))) H') (hj : j < li.length) :
    Op1 P N l ⟨d, .store t x y, T, pos, af, g⟩ w (fun _ w' => HS w0 M H' w') :=
  op_store_own1 (hi := hi) hx hy h1 hH hr (by rw [flat_length henc]; omega) (by rw [← he]; exact flat_set1 henc hj y0)
end
/-- found by trial -/
theorem MEMT {α : Type _} {x : α} {l : List α} (h : x ∈ l := by repeat (first | exact List.Mem.head _ | apply List.Mem.tail)) : x ∈ l := h
theorem CATST {n : Nat} {vs xs : List Value} (h : Cats n vs xs := by repeat (first | exact Cats.nil | (apply Cats.c1; rfl) | apply Cats.c2 | apply Cats.c3 | apply Cats.c4)) : Cats n vs xs := h
/-- what an operation yields that turns nothing: found by trial -/
theorem EXT {P : Program} {N : Nat} {l : List (Nat × Value)} {C : World → Prop} {o : Oper} {v : Value} (h : Ex P N l C o v := by (first | (apply ex_move; rfl) | (apply ex_assign; rfl) | (apply ex_eql; rfl; rfl) | (apply ex_eqlB; rfl; rfl) | (apply ex_neq; rfl; rfl) | (apply ex_neqB; rfl; rfl) | (apply ex_lss; rfl; rfl) | (apply ex_leq; rfl; rfl) | (apply ex_gtr; rfl; rfl) | (apply ex_geq; rfl; rfl) | (apply ex_len_slice; rfl) | (apply ex_fieldAddr_sat; rfl; rfl) | (apply ex_fieldAddr_bat; rfl; rfl) | (apply ex_nilCheck; rfl) | (apply ex_extract; rfl; rfl) | (apply ex_not; rfl) | (apply ex_pick_t; rfl; rfl) | (apply ex_pick_f; rfl; rfl) | (apply ex_succ; rfl; rfl; omega) | (apply ex_add; rfl; rfl; unfold i64ok; omega) | (apply ex_pred; rfl; rfl; omega) | (apply ex_sub; rfl; rfl; unfold i64ok; omega) | (apply ex_indexAddr_nat; rfl; rfl; omega; first | assumption | exact hH.own_sp MEMT) | (apply ex_indexAddr; rfl; rfl; omega; omega; first | assumption | exact hH.own_sp MEMT) | (apply ex_load; rfl; apply cl_cb; exact MEMT; rfl) | (apply ex_load_st; rfl; rotate_left; apply cls_cb_all; exact MEMT; rfl) | (apply ex_lookupI_ok; rfl; rfl; exact MEMT) | (apply ex_lookupI; rfl; rfl; exact MEMT) | (apply ex_makeFunc; rfl; rfl) | (apply ex_build_full; rfl; rfl; rfl; rfl; rfl; (repeat (first | (intro _ h; exact absurd h (List.not_mem_nil)) | (refine List.forall_mem_cons.2 ⟨one_cell_of _ _, ?_⟩)))))) : Ex P N l C o v := h
end Go.Fw
namespace Go.Fw
open Go Go.ChangeShapes Go.WideShapes Go.ChangeAt Go.RowKit Go.Deep
set_option linter.unusedVariables false
/-- all parts are of a size that a machine can have -/
def Szd {H : Type} (P : Program) (t : TypeId) (d : DataW H) : Prop := (d.weights P t).all (· ≤ reachBytes) = true
section
variable {H : Type} {enc : TypeId × Value → H} {P : Program}
theorem szd_all {e : TypeId} : ∀ {l : List (DataW H)}, (DataW.weightsAll P e l).all (· ≤ reachBytes) = true → ∀ d ∈ l, Szd P e d
  | [], _, d, hd => by simp at hd
  | x :: r, h, d, hd => by
    simp only [DataW.weightsAll, List.all_append, Bool.and_eq_true] at h
    rcases List.mem_cons.1 hd with rfl | hd
    · exact h.1
    · exact szd_all h.2 d hd
theorem Szd.slice {t e : TypeId} {elems spare : List (DataW H)} (h : Szd P t (.slice elems spare)) (ht : P.underlying t = some (.slice e)) :
    (elems.length + spare.length) * P.bytesOf e ≤ reachBytes ∧ ∀ d, d ∈ elems → Szd P e d := by
  simp only [Szd, DataW.weights, ht, List.all_cons, List.all_append, Bool.and_eq_true, decide_eq_true_eq] at h
  exact ⟨h.1, szd_all h.2.1⟩
end

section
variable {H : Type} {enc : TypeId × Value → H} {P : Program} {w : World} {base : Nat} {held : Bool}
end
end Go.Fw
namespace Go.Fw
open Go Go.RowKit
set_option linter.unusedVariables false

/-! ## a part with something open, a part with a fact -/
def exI {α : Type} (f : α → It) : It where
  sat w F := ∃ x, (f x).sat w F
  loc := fun ⟨x, h⟩ he => ⟨x, (f x).loc h he⟩
  lt := fun ⟨x, h⟩ b hb => (f x).lt h b hb
  ext := fun ⟨x, h⟩ he => ⟨x, (f x).ext h he⟩
def facI (p : Prop) (it : It) : It where
  sat w F := p ∧ it.sat w F
  loc := fun ⟨hp, h⟩ he => ⟨hp, it.loc h he⟩
  lt := fun ⟨_, h⟩ b hb => it.lt h b hb
  ext := fun ⟨hp, h⟩ he => ⟨hp, it.ext h he⟩
theorem HS.exI_open {α : Type} {f : α → It} {w0 w : World} {M : Nat → Prop} {H : List It} (h : HS w0 M (exI f :: H) w) : ∃ x, HS w0 M (f x :: H) w := by
  obtain ⟨hk, F, ⟨F1, F2, hF, hd, ⟨x, h1⟩, h2⟩, ho⟩ := h
  exact ⟨x, hk, F, ⟨F1, F2, hF, hd, h1, h2⟩, ho⟩
theorem HS.exI_shut {α : Type} {f : α → It} {w0 w : World} {M : Nat → Prop} {H : List It} (x : α) (h : HS w0 M (f x :: H) w) : HS w0 M (exI f :: H) w := by
  obtain ⟨hk, F, ⟨F1, F2, hF, hd, h1, h2⟩, ho⟩ := h
  exact ⟨hk, F, ⟨F1, F2, hF, hd, ⟨x, h1⟩, h2⟩, ho⟩
theorem HS.facI_open {p : Prop} {it : It} {w0 w : World} {M : Nat → Prop} {H : List It} (h : HS w0 M (facI p it :: H) w) : p ∧ HS w0 M (it :: H) w := by
  obtain ⟨hk, F, ⟨F1, F2, hF, hd, ⟨hp, h1⟩, h2⟩, ho⟩ := h
  exact ⟨hp, hk, F, ⟨F1, F2, hF, hd, h1, h2⟩, ho⟩
theorem HS.facI_shut {p : Prop} {it : It} {w0 w : World} {M : Nat → Prop} {H : List It} (hp : p) (h : HS w0 M (it :: H) w) : HS w0 M (facI p it :: H) w := by
  obtain ⟨hk, F, ⟨F1, F2, hF, hd, h1, h2⟩, ho⟩ := h
  exact ⟨hk, F, ⟨F1, F2, hF, hd, ⟨hp, h1⟩, h2⟩, ho⟩

/-! ## one's own slice as a block -/
theorem HS.own_block {w0 w : World} {M : Nat → Prop} {H : List It} {T sz n cap : Nat} {o : Option Addr} {xs : List Value} (h : HS w0 M (own T sz o n cap xs :: H) w) (hc : 0 < cap) :
    ∃ b spare, o = some (bat b 0) ∧ n ≤ cap ∧ cap ≤ maxLen ∧ xs.length = n * sz ∧ xs.length + spare.length = cap * sz ∧ HS w0 M (cb b T (xs ++ spare) :: H) w := by
  obtain ⟨F0, hF0⟩ := h.sat (List.mem_cons_self ..)
  rcases hF0 with ⟨_, _, rfl, _⟩ | ⟨b, spare, rfl, g2, g3, g4, g5, g6, g7⟩
  · omega
  refine ⟨b, spare, rfl, g4, g5, g3, g6, h.conv Rp.here fun F hF => ?_⟩
  rcases hF with ⟨h0, _⟩ | ⟨b', spare', hb', q2, q3, q4, q5, q6, q7⟩
  · cases h0
  · obtain rfl : b = b' := by simpa using hb'
    exact ⟨q2, g7⟩
theorem HS.block_own {w0 w : World} {M : Nat → Prop} {H : List It} {T sz n cap b : Nat} {xs spare : List Value} (h : HS w0 M (cb b T (xs ++ spare) :: H) w) (h1 : xs.length = n * sz) (h2 : n ≤ cap) (h3 : cap ≤ maxLen) (h4 : xs.length + spare.length = cap * sz) :
    HS w0 M (own T sz (some (bat b 0)) n cap xs :: H) w :=
  h.conv Rp.here fun F ⟨q1, q2⟩ => .inr ⟨b, spare, rfl, q1, h1, h2, h3, h4, q2⟩
theorem subO_bat (b k c i sz : Nat) : subO (some (bat b k)) c i sz = some (bat b (if c = i then k else k + i * sz)) := by
  unfold subO bat
  split
  · rfl
  · simp [Addr.add]
theorem put_seg {A B C V : List Value} {k : Nat} (hk : k = A.length) (h : B.length = V.length) : put (A ++ (B ++ C)) k V = A ++ (V ++ C) := by
  subst hk
  unfold put
  rw [List.take_append_of_le_length (Nat.le_refl _), List.take_length, ← h, ← List.append_assoc A B C, show A.length + B.length = (A ++ B).length by simp, List.drop_append_of_le_length (Nat.le_refl _), List.drop_length]
  simp
/-- a piece is taken out, what stands behind it moves up, and what is left behind is written over -/
theorem del_cells {A x B zz spare : List Value} (hz : zz.length = x.length) : put (put (A ++ (x ++ (B ++ spare))) A.length B) (A.length + B.length) zz = (A ++ B) ++ (zz ++ spare) := by
  have e1 : A ++ (x ++ (B ++ spare)) = A ++ ((x ++ B).take B.length ++ ((x ++ B).drop B.length ++ spare)) := by
    rw [← List.append_assoc ((x ++ B).take _), List.take_append_drop, List.append_assoc]
  rw [e1, put_seg rfl (by simp), ← List.append_assoc A B, put_seg (by simp) (by simp [hz])]
theorem mid_take {A x B R : List Value} : ((A ++ (x ++ (B ++ R))).drop (A.length + x.length)).take B.length = B := by
  rw [← List.append_assoc, show A.length + x.length = (A ++ x).length by simp, List.drop_append_of_le_length (Nat.le_refl _), List.drop_length]
  simp
/-- a piece is put in, what stood there moves down -/
theorem ins_cells {A v B sp1 sp2 : List Value} (hv : v.length = sp1.length) : put (put (A ++ (B ++ (sp1 ++ sp2))) (A.length + v.length) B) A.length v = (A ++ (v ++ B)) ++ sp2 := by
  have e1 : A ++ (B ++ (sp1 ++ sp2)) = (A ++ (B ++ sp1).take v.length) ++ ((B ++ sp1).drop v.length ++ sp2) := by
    rw [List.append_assoc, ← List.append_assoc ((B ++ sp1).take _), List.take_append_drop, List.append_assoc]
  rw [e1, put_seg (by simp; omega) (by simp; omega), List.append_assoc A, put_seg rfl (by simp; omega)]
  simp
theorem bat_sat (b k j : Nat) : sat (some (bat b k)) j = bat b (k + j) := rfl
/-- what a block holds can be read from each of its places -/
theorem HS.cb_rd {w0 w : World} {M : Nat → Prop} {H : List It} {b T : Nat} {cs : List Value} (h : HS w0 M H w) (hm : cb b T cs ∈ H) (k : Nat) : Rd w (some (bat b k)) (cs.drop k) := by
  obtain ⟨F, hF⟩ := h.sat hm
  refine ⟨fun _ => ⟨b, k, rfl⟩, fun j u hj => ?_⟩
  rw [bat_sat]
  rw [List.getElem?_drop] at hj
  have := cell_of_cells hF.2 (k + j)
  unfold bat
  rw [this]
  simpa using hj

theorem HS.cb_news {w0 w : World} {M : Nat → Prop} {H : List It} {b T k m : Nat} {cs : List Value} (h : HS w0 M H w) (hm : cb b T cs ∈ H) : ∀ j u, ((cs.drop k).take m)[j]? = some u → w.cell? ((bat b k).add j) = some u := by
  intro j u hj
  have hjl := (List.getElem?_eq_some_iff.1 hj).1
  rw [List.length_take] at hjl
  rw [List.getElem?_take_of_lt (by omega)] at hj
  rw [bat_add]
  exact (h.cb_rd hm k).2 j u hj
theorem Rd.news {w : World} {a : Addr} {xs : List Value} (h : Rd w (some a) xs) : ∀ j u, xs[j]? = some u → w.cell? (a.add j) = some u := by
  intro j u hj
  obtain ⟨b, off, hb⟩ := h.1 (by have := (List.getElem?_eq_some_iff.1 hj).1; omega)
  obtain rfl : a = ⟨b, off, none⟩ := by simpa using hb
  rw [add_eq_sat]
  exact h.2 j u hj

section
variable {P : Program} {N : Nat} {l : List (Nat × Value)} {C : World → Prop} {d : Option Tmp} {T : TypeId} {pos : String} {af : Array Edge} {g : Option (Nat × Bool)}
theorem ex_slice_lo_b {t e sz by_ k n c b k0 q : Nat} {z : Value} {zs : List Value} {x y : Operand} {kd : IntKind} {m : Int} [ht : TSl P t e] [hi : TIf P e z zs sz by_]
    (hx : ev l x = some (.slice (some (bat b k0)) n c)) (hy : ev l y = some (.int kd m)) (hk : m = (k : Int)) (hkn : k ≤ n) (hq : (if c = k then k0 else k0 + k * sz) = q) : Ex P N l C ⟨d, .slice t x (some y) none none, T, pos, af, g⟩ (.slice (some (bat b q)) (n - k) (c - k)) := by
  have := ex_slice_lo (P := P) (N := N) (l := l) (C := C) (d := d) (T := T) (pos := pos) (af := af) (g := g) (ht := ht) (hi := hi) hx hy hk hkn
  rw [subO_bat, hq] at this
  exact this
theorem ex_slice_lh {t e sz by_ i j n c : Nat} {z : Value} {zs : List Value} {x y y2 : Operand} {o : Option Addr} {kd kd2 : IntKind} {m m2 : Int} [ht : TSl P t e] [hi : TIf P e z zs sz by_]
    (hx : ev l x = some (.slice o n c)) (hy : ev l y = some (.int kd m)) (hy2 : ev l y2 = some (.int kd2 m2)) (hk : m = (i : Int)) (hk2 : m2 = (j : Int)) (hij : i ≤ j) (hjc : j ≤ c) :
    Ex P N l C ⟨d, .slice t x (some y) (some y2) none, T, pos, af, g⟩ (.slice (subO o c i sz) (j - i) (c - i)) := by
  intro a w hA _
  subst hk; subst hk2
  obtain ⟨ti, h3, h4, h5, h6⟩ := hi.eq
  have h1 : (j : Int) ≤ (c : Int) := by omega
  have h2 : (i : Int) ≤ (j : Int) := by omega
  simp only [execOp, hA.ev hx, Instr.sliceAt, Sem.run_bind, run_underlying ht.eq, Result.andThen_ok, Instr.slice, Instr.sliceBounds, Option.map_some, Option.map_none, Sem.run_pure, hA.ev hy, hA.ev hy2, Instr.sliceBound, asIntOf]
  simp [h1, h2, hij, hjc, sizeOf, typeInfo, h3, h5, subO]
theorem ex_slice_lh_b {t e sz by_ i j n c b k0 q : Nat} {z : Value} {zs : List Value} {x y y2 : Operand} {kd kd2 : IntKind} {m m2 : Int} [ht : TSl P t e] [hi : TIf P e z zs sz by_]
    (hx : ev l x = some (.slice (some (bat b k0)) n c)) (hy : ev l y = some (.int kd m)) (hy2 : ev l y2 = some (.int kd2 m2)) (hk : m = (i : Int)) (hk2 : m2 = (j : Int)) (hij : i ≤ j) (hjc : j ≤ c) (hq : (if c = i then k0 else k0 + i * sz) = q) :
    Ex P N l C ⟨d, .slice t x (some y) (some y2) none, T, pos, af, g⟩ (.slice (some (bat b q)) (j - i) (c - i)) := by
  have := ex_slice_lh (P := P) (N := N) (l := l) (C := C) (d := d) (T := T) (pos := pos) (af := af) (g := g) (ht := ht) (hi := hi) hx hy hy2 hk hk2 hij hjc
  rw [subO_bat, hq] at this
  exact this
theorem ex_slice_3 {t e sz by_ i j k n c : Nat} {z : Value} {zs : List Value} {x y y2 y3 : Operand} {o : Option Addr} {kd kd2 kd3 : IntKind} {m m2 m3 : Int} [ht : TSl P t e] [hi : TIf P e z zs sz by_]
    (hx : ev l x = some (.slice o n c)) (hy : ev l y = some (.int kd m)) (hy2 : ev l y2 = some (.int kd2 m2)) (hy3 : ev l y3 = some (.int kd3 m3)) (hk : m = (i : Int)) (hk2 : m2 = (j : Int)) (hk3 : m3 = (k : Int)) (hij : i ≤ j) (hjk : j ≤ k) (hkc : k ≤ c) :
    Ex P N l C ⟨d, .slice t x (some y) (some y2) (some y3), T, pos, af, g⟩ (.slice (subO o k i sz) (j - i) (k - i)) := by
  intro a w hA _
  subst hk; subst hk2; subst hk3
  obtain ⟨ti, h3, h4, h5, h6⟩ := hi.eq
  have h0 : (k : Int) ≤ (c : Int) := by omega
  have h1 : (j : Int) ≤ (k : Int) := by omega
  have h2 : (i : Int) ≤ (j : Int) := by omega
  simp only [execOp, hA.ev hx, Instr.sliceAt, Sem.run_bind, run_underlying ht.eq, Result.andThen_ok, Instr.slice, Instr.sliceBounds, Option.map_some, Option.map_none, Sem.run_pure, hA.ev hy, hA.ev hy2, hA.ev hy3, Instr.sliceBound, asIntOf]
  simp [h0, h1, h2, hij, hjk, hkc, sizeOf, typeInfo, h3, h5, subO]
theorem ex_eqlNil {t e ty : TypeId} {x y : Operand} {o : Option Addr} {n c : Nat} [ht : TSl P t e] (hx : ev l x = some (.slice o n c)) (hy : ev l y = some (.slice none 0 0)) : Ex P N l C ⟨d, .binOp .eql t x y ty, T, pos, af, g⟩ (.bool o.isNone) := by
  intro a w hA _
  simp [execOp, hA.ev hx, hA.ev hy, eqGuard_at_slice, binOp, run_equal_slice_nil w t e o n c ht.eq]
theorem ex_max {ats : Array TypeId} {x y : Operand} {k k' : IntKind} {m n : Int} (hx : ev l x = some (.int k m)) (hy : ev l y = some (.int k' n)) : Ex P N l C ⟨d, .call ⟨.builtin .max, #[x, y], ats⟩, T, pos, af, g⟩ (.int k (if n > m then n else m)) := by
  intro a w hA _
  simp [execOp, resolve, invoke, builtin, hA.ev hx, hA.ev hy, run_max_int2]

/-- append in place -/
theorem op_append_in {t e sz by_ n cap m c b : Nat} {z : Value} {zs : List Value} {ad : Addr} {x y : Operand} {cells news : List Value} {w0 w : World} {M : Nat → Prop} {H H' : List It} [ht : TSl P t e] [hi : TIf P e z zs sz by_]
    (hx : ev l x = some (.slice (some (bat b 0)) n cap)) (hy : ev l y = some (.slice (some ad) m c)) (hH : HS w0 M H w) (hnews : ∀ j u, news[j]? = some u → w.cell? (ad.add j) = some u) (hl : news.length = m * sz)
    (h1 : news.all (·.oneCell') = true) (hroom : n + m ≤ cap) (hfit : n * sz + news.length ≤ cells.length) (hr : Rp H (cb b e cells) (cb b e (put cells (n * sz) news)) H') :
    Op1 P N l ⟨d, .call ⟨.builtin .append, #[x, y], #[t, t]⟩, T, pos, af, g⟩ w (fun v w' => v = .slice (some (bat b 0)) (n + m) cap ∧ HS w0 M H' w') := by
  intro a hA K Q hK
  obtain ⟨ti, h3, h4, h5, h6⟩ := hi.eq
  obtain ⟨R, p, _⟩ := hr.split
  obtain ⟨F, hF1, hF2⟩ := hH.sat (p.symm.subset (List.mem_cons_self))
  have hrun := run_append_room (P := P) w t T e ti ht.eq h3 b n cap cells.toArray hF2 ad m c news (by rw [h5]; exact hl) hnews (fun u hu => List.all_eq_true.1 h1 u hu) hroom (by rw [h5]; simpa using hfit)
  rw [h5] at hrun
  unfold Oper.wp
  simp only [execOp, resolve, invoke, builtin, Sem.run_bind, Sem.run_pure, Result.andThen_ok, List.map_toArray, List.map_cons, List.map_nil, hA.ev hx, hA.ev hy, Oper.upon]
  have e0 : (some (bat b 0) : Option Addr) = some ⟨b, 0, none⟩ := rfl
  rw [e0, hrun]
  exact hK _ _ ⟨rfl, hH.turn hr fun F' hF' => ⟨setRow_kp w b _ F' ((hF'.1 b).2 rfl), F', ⟨hF'.1, setRow_heap w b _ _ _ _ hF2⟩, fun b hb => .inr hb⟩⟩

/-- append(s, make([]T, k)...) into a new block -/
theorem op_append_mk {t tn e sz by_ n cap k : Nat} {kd : IntKind} {z : Value} {zs : List Value} {a0 : Addr} {x y : Operand} {xs : List Value} {mk : Int} {w0 w : World} {M : Nat → Prop} {H : List It} [ht : TSl P t e] [hi : TIf P e z zs sz by_] [hn : TIn P tn kd]
    (hx : ev l x = some (.slice (some a0) n cap)) (hy : ev l y = some (.int .i64 mk)) (hmk : mk = (k : Int)) (hH : HS w0 M H w) (holds : ∀ j u, xs[j]? = some u → w.cell? (a0.add j) = some u) (hlo : xs.length = n * sz)
    (hzs0 : zs.length = sz) (hsz : 0 < sz) (hgrow : cap < n + k) (h63 : n + k ≤ maxLen) (hby : (n + k) * by_ ≤ 140737488355328) (hnc : n ≤ cap) :
    Op1 P N l ⟨d, .call ⟨.builtin .append, #[x, y], #[t, tn]⟩, T, pos, af, g⟩ w (fun v w' => ∃ o' cap' rest, v = .slice o' (n + k) cap' ∧ rest.length = k * sz ∧ HS w0 M (own e sz o' (n + k) cap' (xs ++ rest) :: H) w') := by
  intro a hA K Q hK
  subst hmk
  obtain ⟨ti, h3, h4, h5, h6⟩ := hi.eq
  have hzs : z.cells.size = sz := by rw [← hzs0, ← hi.zc]; simp
  subst h5; subst h6
  have hm63 : n + k ≤ 9223372036854775807 := by simp only [maxLen] at h63; omega
  have hge := grownCap_ge w (n + k) cap e
  have hcm : grownCap w (n + k) cap e ≤ maxLen := grownCap_le_maxLen w (n + k) cap e h63
  have hfit : Builtin.nextslicecap (n + k) cap * ti.bytes ≤ 281474976710656 := growslice_fits (by omega) hby
  have hwk : IntKind.i64.wrap (k : Int) = k := wrap_i64 ⟨by omega, by omega⟩
  have hk0 : ¬ (k * ti.size = 0) := by
    have : 0 < k := by omega
    exact Nat.ne_of_gt (Nat.mul_pos this hsz)
  have hkb : ¬ (281474976710656 < (k : Int) * (ti.bytes : Int)) := by
    have h1 : k * ti.bytes ≤ (n + k) * ti.bytes := Nat.mul_le_mul_right _ (by omega)
    rw [← Int.natCast_mul]
    omega
  have hng : ¬ (n + k ≤ cap) := by omega
  have h63' : ¬ (9223372036854775807 < ((n : Int) + (k : Int))) := by omega
  have h48' : ¬ (281474976710656 < Builtin.nextslicecap (n + k) cap * ti.bytes) := by omega
  have hfo := run_firstCells_some (P := P) w.drew ti.size n a0 n cap xs hlo (by simpa using holds)
  have hrun : (Builtin.append_ #[t, tn] T #[.slice (some a0) n cap, .int .i64 (k : Int)]).run P w =
      .ok (.slice (some ⟨w.heap.size, 0, none⟩) (n + k) (grownCap w (n + k) cap e)) (w.drew.alloc (.cells (xs.toArray ++ Builtin.zeroCells z.cells k ++ Builtin.zeroCells z.cells (grownCap w (n + k) cap e - (n + k))) e)) := by
    simp [Builtin.append_, run_underlying ht.eq, run_underlying hn.eq, sizeOf, typeInfo, zeroValue, h3, h4, asInt, asIntOf, hwk, hkb, hk0, hng, h63', h48', Question.forced, hfo, newRow, grownCap, show ¬ ((k : Int) < 0) by omega]
  unfold Oper.wp
  simp only [execOp, resolve, invoke, builtin, Sem.run_bind, Sem.run_pure, Result.andThen_ok, List.map_toArray, List.map_cons, List.map_nil, hA.ev hx, hA.ev hy, hrun, Oper.upon]
  have hc := hH.drew.come_own e ti.size (n + k) (grownCap w (n + k) cap e) (xs ++ (Builtin.zeroCells z.cells k).toList) (Builtin.zeroCells z.cells (grownCap w (n + k) cap e - (n + k))).toList (by rw [List.length_append, hlo, Array.length_toList, size_zeroCells, hzs, Nat.add_mul]) hge hcm (by
    rw [List.length_append, hlo, Array.length_toList, size_zeroCells, hzs, ← Nat.add_mul, Array.length_toList, size_zeroCells, hzs, ← Nat.add_mul]
    congr 1
    omega)
  refine hK _ _ ⟨_, _, (Builtin.zeroCells z.cells k).toList, rfl, by rw [Array.length_toList, size_zeroCells, hzs], ?_⟩
  have e1 : (xs ++ (Builtin.zeroCells z.cells k).toList ++ (Builtin.zeroCells z.cells (grownCap w (n + k) cap e - (n + k))).toList).toArray = xs.toArray ++ Builtin.zeroCells z.cells k ++ Builtin.zeroCells z.cells (grownCap w (n + k) cap e - (n + k)) := by
    apply Array.ext'
    simp
  rw [e1] at hc
  exact hc

/-- copy into a block -/
theorem op_copy_cb {t e sz by_ m nd cd cs k b : Nat} {z : Value} {zs : List Value} {ad : Addr} {x y : Operand} {cells news : List Value} {ty : TypeId} {w0 w : World} {M : Nat → Prop} {H H' : List It} [ht : TSl P t e] [hi : TIf P e z zs sz by_]
    (hx : ev l x = some (.slice (some (bat b k)) nd cd)) (hy : ev l y = some (.slice (some ad) m cs)) (hH : HS w0 M H w) (hnews : ∀ j u, news[j]? = some u → w.cell? (ad.add j) = some u) (hl : news.length = Nat.min m nd * sz)
    (h1 : news.all (·.oneCell') = true) (hk : k + news.length ≤ cells.length) (hr : Rp H (cb b e cells) (cb b e (put cells k news)) H') :
    Op1 P N l ⟨d, .call ⟨.builtin .copy, #[x, y], #[t, ty]⟩, T, pos, af, g⟩ w (fun v w' => v = .int .i64 (Nat.min m nd) ∧ HS w0 M H' w') := by
  intro a hA K Q hK
  obtain ⟨ti, h3, h4, h5, h6⟩ := hi.eq
  obtain ⟨R, p, _⟩ := hr.split
  obtain ⟨F, hF1, hF2⟩ := hH.sat (p.symm.subset (List.mem_cons_self))
  have hload : (loadCells ad news.length).run P w = .ok news.toArray w := run_loadCells_list (P := P) w ad news hnews
  have hst := run_storeCells_at (P := P) b k e news 0 cells.toArray w hF2 (by simpa using hk) (fun x hx => List.all_eq_true.1 h1 x hx)
  simp only [Nat.add_zero] at hst
  have hrun : (Builtin.copy_ #[t, ty] T #[.slice (some ⟨b, k, none⟩) nd cd, .slice (some ad) m cs]).run P w = .ok (.int .i64 (Nat.min m nd)) (w.setRow b (put cells k news).toArray) := by
    simp [Builtin.copy_, run_underlying ht.eq, Builtin.lenOf, Builtin.firstCells, sizeOf, typeInfo, h3, h5, ← hl, hload, hst, goInt, put]
  unfold Oper.wp
  have e0 : (some (bat b k) : Option Addr) = some ⟨b, k, none⟩ := rfl
  simp only [execOp, resolve, invoke, builtin, Sem.run_bind, Sem.run_pure, Result.andThen_ok, List.map_toArray, List.map_cons, List.map_nil, hA.ev hx, hA.ev hy, e0, hrun, Oper.upon]
  exact hK _ _ ⟨rfl, hH.turn hr fun F' hF' => ⟨setRow_kp w b _ F' ((hF'.1 b).2 rfl), F', ⟨hF'.1, setRow_heap w b _ _ _ _ hF2⟩, fun b hb => .inr hb⟩⟩

/-- clear a part of a block -/
theorem op_clear_cb {t e sz by_ n c k b : Nat} {z : Value} {zs : List Value} {x : Operand} {cells : List Value} {w0 w : World} {M : Nat → Prop} {H : List It} [ht : TSl P t e] [hi : TIf P e z zs sz by_]
    (hx : ev l x = some (.slice (some (bat b k)) n c)) (hn : 0 < n) (hH : HS w0 M (cb b e cells :: H) w) (hzs0 : zs.length = sz) (h1 : zs.all (·.oneCell') = true) (hk : k + n * sz ≤ cells.length) :
    Op1 P N l ⟨d, .call ⟨.builtin .clear, #[x], #[t]⟩, T, pos, af, g⟩ w (fun v w' => ∃ zz : List Value, zz.length = n * sz ∧ HS w0 M (cb b e (put cells k zz) :: H) w') := by
  intro a hA K Q hK
  obtain ⟨ti, h3, h4, h5, h6⟩ := hi.eq
  have hzs : z.cells.size = sz := by rw [← hzs0, ← hi.zc]; simp
  obtain ⟨F, hF1, hF2⟩ := hH.sat (List.mem_cons_self)
  have hlen : (Builtin.zeroCells z.cells n).toList.length = n * sz := by rw [Array.length_toList, size_zeroCells, hzs]
  have hone : ∀ v ∈ (Builtin.zeroCells z.cells n).toList, v.oneCell' = true := by
    intro v hv
    simp only [Builtin.zeroCells, Array.toList_map, Array.toList_range, List.mem_map, List.mem_range] at hv
    obtain ⟨i, hi', rfl⟩ := hv
    have hpos : 0 < z.cells.size := by
      rcases Nat.eq_zero_or_pos z.cells.size with h0 | h0
      · rw [h0] at hi'; omega
      · exact h0
    have hlt : i % z.cells.size < z.cells.size := Nat.mod_lt _ hpos
    rw [getElem!_pos z.cells _ hlt]
    refine List.all_eq_true.1 h1 _ ?_
    rw [← hi.zc]
    exact Array.getElem_mem_toList hlt
  have hst := run_storeCells_at (P := P) b k e (Builtin.zeroCells z.cells n).toList 0 cells.toArray w hF2 (by rw [hlen]; simpa using hk) hone
  simp only [Nat.add_zero] at hst
  obtain ⟨n', rfl⟩ : ∃ n', n = n' + 1 := ⟨n - 1, by omega⟩
  have hrun : (Builtin.clear_ #[t] T #[.slice (some ⟨b, k, none⟩) (n' + 1) c]).run P w = .ok (.tuple #[]) (w.setRow b (put cells k (Builtin.zeroCells z.cells (n' + 1)).toList).toArray) := by
    simp [Builtin.clear_, run_underlying ht.eq, zeroValue, typeInfo, h3, h4, hst, put]
  unfold Oper.wp
  have e0 : (some (bat b k) : Option Addr) = some ⟨b, k, none⟩ := rfl
  simp only [execOp, resolve, invoke, builtin, Sem.run_bind, Sem.run_pure, Result.andThen_ok, List.map_toArray, List.map_cons, List.map_nil, hA.ev hx, e0, hrun, Oper.upon]
  exact hK _ _ ⟨_, hlen, hH.turn Rp.here fun F' hF' => ⟨setRow_kp w b _ F' ((hF'.1 b).2 rfl), F', ⟨hF'.1, setRow_heap w b _ _ _ _ hF2⟩, fun b hb => .inr hb⟩⟩
theorem HS.cb_ne {w0 w : World} {M : Nat → Prop} {H : List It} {b1 b2 T1 T2 : Nat} {c1 c2 : List Value} (h : HS w0 M (cb b1 T1 c1 :: cb b2 T2 c2 :: H) w) : b1 ≠ b2 := by
  obtain ⟨hk, F, ⟨F1, F2, hF, hd, h1, ⟨F3, F4, hG, hd', h3, h4⟩⟩, ho⟩ := h
  rintro rfl
  exact hd b1 ((h1.1 b1).2 rfl) ((hG b1).2 (.inl ((h3.1 b1).2 rfl)))
/-- two slices in two blocks -/
theorem op_overlaps {f : FuncId} {fn : Func} {t tR e sz by_ b1 k1 la ca b2 k2 lb cb_ T1 T2 : Nat} {z : Value} {zs : List Value} {x y : Operand} {c1 c2 : List Value} {ats : Array TypeId} {w0 w : World} {M : Nat → Prop} {H : List It} [ht : TSl P t e] [hi : TIf P e z zs sz by_]
    (hf : P.funcs[f]? = some fn) (hname : (fn.name == "runtime.NumGoroutine") = false) (hb : fn.body.isNone = true) (hn : Extern.findNext fn = none) (he : Extern.find fn = some (Extern.SlicesOverlaps.overlaps #[t, t] #[tR]))
    (hx : ev l x = some (.slice (some (bat b1 k1)) la ca)) (hy : ev l y = some (.slice (some (bat b2 k2)) lb cb_)) (hH : HS w0 M H w) (h1 : cb b1 T1 c1 ∈ H) (h2 : cb b2 T2 c2 ∈ H) (hne : b1 ≠ b2) (hc2 : c2.length ≠ 0) :
    Op1 P N l ⟨d, .call ⟨.value (.func f), #[x, y], ats⟩, T, pos, af, g⟩ w (fun v w' => v = .bool false ∧ w' = w) := by
  intro a hA K Q hK
  obtain ⟨ti, h3, h4, h5, h6⟩ := hi.eq
  obtain ⟨F1, q1, q2⟩ := hH.sat h1
  obtain ⟨F2, q3, q4⟩ := hH.sat h2
  have hz : ∀ w, (Go.sizeOf e).run P w = .ok sz w := fun w => by simp [sizeOf, typeInfo, h3, h5]
  have hov := Go.Lib.run_overlaps_apart (P := P) w t tR e ht.eq sz hz (bat b1 k1) (bat b2 k2) la ca lb cb_ hne T1 T2 c1.length c2.length (by simp [World.shape?, bat, q2]) (by simp [World.shape?, bat, q4]) hc2 (by simp [World.frozen?, bat, q2]) (by simp [World.frozen?, bat, q2])
  have hcall : (callFunc f #[.slice (some (bat b1 k1)) la ca, .slice (some (bat b2 k2)) lb cb_]).run P w = .ok (.value (.bool false)) w := by
    rw [run_callFunc_extern hf hname hb hn he, hov]
    rfl
  have hfe : a.eval (.func f) = .func (.func f) #[] #[] := rfl
  unfold Oper.wp
  simp only [execOp, resolve, hfe, Deferred.ofValue, Sem.run_bind, Sem.run_pure, Result.andThen_ok, List.map_toArray, List.map_cons, List.map_nil, hA.ev hx, hA.ev hy, invoke, Array.append_empty, Array.empty_append, hcall, Oper.upon]
  exact hK _ _ ⟨rfl, rfl⟩
end
end Go.Fw
namespace Go.Fw
open Go Go.RowKit
set_option linter.unusedVariables false
def shlK (k : IntKind) (m n : Int) : Int := k.wrap (m * 2 ^ (min n.toNat k.bits))
def orK (k : IntKind) (m n : Int) : Int := k.wrap ((BitVec.ofInt k.bits m ||| BitVec.ofInt k.bits n).toNat)
theorem made_flatN {α : Type} {enc : α → List Value} {z : Value} {zs : List Value} {x : α} {sz : Nat} (henc : ∀ x, (enc x).length = sz) (hz : z.cells.toList = zs) (he : enc x = zs) (hsz : 0 < sz) (n : Nat) : (madeCells z.cells (n * sz)).toList.take (n * sz) = flat enc (List.replicate n x) := by
  have hs : z.cells.size = sz := by rw [← henc x, he, ← hz]; simp
  rw [List.take_of_length_le (by simp [size_madeCells])]
  apply List.ext_getElem?
  intro i
  by_cases hi : i < n * sz
  · have hm : i % sz < sz := Nat.mod_lt _ hsz
    have hd : i / sz < n := by
      rw [Nat.div_lt_iff_lt_mul hsz]
      exact hi
    obtain ⟨v, hv⟩ : ∃ v, (enc x)[i % sz]? = some v := ⟨_, List.getElem?_eq_getElem (by rw [henc]; exact hm)⟩
    have h1 := flat_get henc (l := List.replicate n x) (i := i / sz) (off := i % sz) (x := x) (by simp [hd]) hv
    rw [show i / sz * sz + i % sz = i by rw [Nat.mul_comm]; exact Nat.div_add_mod i sz] at h1
    rw [h1]
    rw [he, ← hz] at hv
    have h2 : i % z.cells.size < z.cells.size := by rw [hs]; exact hm
    have h3 : z.cells[i % sz]? = some v := by simpa using hv
    simp only [madeCells, Array.toList_map, Array.toList_range]
    rw [List.getElem?_map, List.getElem?_range hi, Option.map_some, hs]
    rw [getElem!_def, h3]
  · have h1 : (flat enc (List.replicate n x)).length = n * sz := by rw [flat_length henc, List.length_replicate]
    rw [List.getElem?_eq_none (by rw [Array.length_toList, size_madeCells]; omega), List.getElem?_eq_none (by omega)]
section
variable {P : Program} {N : Nat} {l : List (Nat × Value)} {C : World → Prop} {d : Option Tmp} {T : TypeId} {pos : String} {af : Array Edge} {g : Option (Nat × Bool)}
/-- make([]T, n) -/
theorem op_make {α : Type} (enc : α → List Value) (x0 : α) {t e sz by_ : Nat} {z : Value} {zs : List Value} {x y : Operand} {kl kc : IntKind} {n : Nat} {m m' : Int} {w0 w : World} {M : Nat → Prop} {H : List It} [ht : TSl P t e] [hi : TIf P e z zs sz by_]
    (hx : ev l x = some (.int kl m)) (hy : ev l y = some (.int kc m')) (hm : m = (n : Int)) (hm' : m' = (n : Int)) (hc : n ≤ maxLen) (hb : by_ * n ≤ 140737488355328) (henc : ∀ x, (enc x).length = sz) (he : enc x0 = zs) (hsz : 0 < sz) (hH : HS w0 M H w) :
    Op1 P N l ⟨d, .makeSlice t x y, T, pos, af, g⟩ w (fun v w' => ∃ o, v = .slice o n n ∧ HS w0 M (own e sz o n n (flat enc (List.replicate n x0)) :: H) w') := by
  subst hm; subst hm'
  have := op_makeSlice (P := P) (N := N) (l := l) (d := d) (T := T) (pos := pos) (af := af) (g := g) (t := t) (e := e) hx hy (Nat.le_refl n) hc hb hH
  rw [made_flatN henc hi.zc he hsz] at this
  exact this
theorem ex_shl {t ty : TypeId} {x y : Operand} {k k2 : IntKind} {m n v : Int} (hx : ev l x = some (.int k m)) (hy : ev l y = some (.int k2 n)) (hn : 0 ≤ n) (hv : shlK k m n = v) : Ex P N l C ⟨d, .binOp .shl t x y ty, T, pos, af, g⟩ (.int k v) := by
  intro a w hA _
  subst hv
  simp only [execOp, hA.ev hx, hA.ev hy, eqGuard_at_int, binOp_shl]
  simp [Op.shift, shlK, show ¬ n < 0 by omega]
theorem ex_or {t ty : TypeId} {x y : Operand} {k : IntKind} {m n v : Int} (hx : ev l x = some (.int k m)) (hy : ev l y = some (.int k n)) (hv : orK k m n = v) : Ex P N l C ⟨d, .binOp .or t x y ty, T, pos, af, g⟩ (.int k v) := by
  intro a w hA _
  subst hv
  simp only [execOp, hA.ev hx, hA.ev hy, eqGuard_at_int, binOp_or]
  simp [Op.intBits, orK]
/-- a struct literal with some of its fields, each of one cell -/
theorem ex_build_p {t sz by_ : Nat} {z : Value} {zs : List Value} {fl : List (Nat × Nat)} {ps : Array (Nat × Operand)} {vs : List Value} (cs : Array Value) [h : TSt P t fl] [hi : TIf P t z zs sz by_]
    (hv : evL l (ps.toList.map (·.2)) = some vs) (hsz : ∀ p ∈ fl, ∃ i, P.info? p.1 = some i ∧ i.size = 1) (hf : Instr.fill ((fl.map (fun p => (p.2, 1)))[·]?) zs.toArray ((ps.toList.map (·.1)).zip vs) = some cs) :
    Ex P N l C ⟨d, .build t ps, T, pos, af, g⟩ (.agg cs) := by
  have hrun : ∀ (fl : List (Nat × Nat)) (w : World), (∀ p ∈ fl, ∃ i, P.info? p.1 = some i ∧ i.size = 1) → (fl.mapM (fun p => do pure (p.2, ← sizeOf p.1)) : Sem (List (Nat × Nat))).run P w = .ok (fl.map (fun p => (p.2, 1))) w := by
    intro fl w
    induction fl with
    | nil => intro _; simp
    | cons p fl ih =>
      intro hp
      obtain ⟨i, hi1, hi2⟩ := hp p (by simp)
      have := ih fun q hq => hp q (by simp [hq])
      simp only [List.mapM_cons, Sem.run_bind, sizeOf, typeInfo, run_program, Result.andThen_ok, hi1, Sem.run_pure, hi2] at this ⊢
      rw [this]
      simp
  have hzc : z.cells = zs.toArray := by apply Array.ext'; simpa using hi.zc
  exact ex_build (szs := fl.map (fun p => (p.2, 1))) (fun w => hrun fl w hsz) hv (by rw [hzc]; exact hf)
/-- a pair is set -/
theorem op_setP {m r : Int} {t by_ i Tb n cap : Nat} {o : Option Addr} {z : Value} {zs : List Value} {x y : Operand} {li : List (Int × Int)} {w0 w : World} {M : Nat → Prop} {H H' : List It} [hi : TIf P t z zs 2 by_]
    (hx : ev l x = some (.pointer (some (sat o (i * 2))))) (hy : ev l y = some (.agg #[.int .i64 m, .int .i64 r])) (hH : HS w0 M H w) (hr : Rp H (own Tb 2 o n cap (flat encP li)) (own Tb 2 o n cap (flat encP (li.set i (m, r)))) H') (hj : i < li.length) :
    Op1 P N l ⟨d, .store t x y, T, pos, af, g⟩ w (fun _ w' => HS w0 M H' w') :=
  op_store_own (hi := hi) hx hy hH hr (vs := [.int .i64 m, .int .i64 r]) rfl rfl rfl (by omega) (by rw [flat_length encP_len]; omega) (by
    have := flat_put encP_len (l := li) (i := i) (x := li[i]) (y := (m, r)) (off := 0) (vs := encP (m, r)) (List.getElem?_eq_getElem hj) (by simp [put, encP]) (by simp [encP])
    rw [Nat.add_zero] at this
    exact this)
theorem op_setP0 {m a r : Int} {t by_ i Tb n cap : Nat} {o : Option Addr} {z : Value} {zs : List Value} {x y : Operand} {li : List (Int × Int)} {w0 w : World} {M : Nat → Prop} {H H' : List It} [hi : TIf P t z zs 1 by_]
    (hx : ev l x = some (.pointer (some (sat o (i * 2 + 0))))) (hy : ev l y = some (.int .i64 m)) (hH : HS w0 M H w) (hj : li[i]? = some (a, r)) (hr : Rp H (own Tb 2 o n cap (flat encP li)) (own Tb 2 o n cap (flat encP (li.set i (m, r)))) H') :
    Op1 P N l ⟨d, .store t x y, T, pos, af, g⟩ w (fun _ w' => HS w0 M H' w') :=
  have hlt := (List.getElem?_eq_some_iff.1 hj).1
  op_store_own1 (hi := hi) hx hy rfl hH hr (by rw [flat_length encP_len]; omega) (flat_put encP_len (off := 0) (vs := [.int .i64 m]) hj rfl (by simp))
theorem op_setP1 {m a r : Int} {t by_ i Tb n cap : Nat} {o : Option Addr} {z : Value} {zs : List Value} {x y : Operand} {li : List (Int × Int)} {w0 w : World} {M : Nat → Prop} {H H' : List It} [hi : TIf P t z zs 1 by_]
    (hx : ev l x = some (.pointer (some (sat o (i * 2 + 1))))) (hy : ev l y = some (.int .i64 m)) (hH : HS w0 M H w) (hj : li[i]? = some (a, r)) (hr : Rp H (own Tb 2 o n cap (flat encP li)) (own Tb 2 o n cap (flat encP (li.set i (a, m)))) H') :
    Op1 P N l ⟨d, .store t x y, T, pos, af, g⟩ w (fun _ w' => HS w0 M H' w') :=
  have hlt := (List.getElem?_eq_some_iff.1 hj).1
  op_store_own1 (hi := hi) hx hy rfl hH hr (by rw [flat_length encP_len]; omega) (flat_put encP_len (off := 1) (vs := [.int .i64 m]) hj rfl (by simp))
end
end Go.Fw
namespace Go.Fw
open Go Go.RowKit
set_option linter.unusedVariables false
/-- a first part, where nothing comes last -/
def okE (ops : Array Oper) (k : Array Bool → Bool) : List (Nat × Nat) → Array Bool → Bool
  | [], listed => k listed
  | (i, 0) :: π, listed => decide (Region.ready .any ops listed = [i]) && okE ops k π (listed.setIfInBounds i true)
  | (i, _ + 1) :: π, listed => (Region.ready .any ops listed).contains i && Region.free .any ops listed i && okE ops k π (listed.setIfInBounds i true)
/-- whichever order they come in -/
def okG (ops : Array Oper) (k : Array Bool → Bool) : Nat → List Nat → Array Bool → Bool
  | 0, _, listed => k listed
  | n + 1, G, listed => decide (Region.ready .any ops listed = G) && G.all fun i => okG ops k n (G.erase i) (listed.setIfInBounds i true)
def wkE (P : Program) (ops : Array Oper) (S : World → Prop) (Q : Exit → Act → World → Prop) (K : Act → World → Prop) : List (Nat × Nat) → Act → World → Prop
  | [], a, w => K a w
  | (i, 0) :: π, a, w => wpOp P ops (NoPanic Q) i (fun a' w' => S w' ∧ wkE P ops S Q K π a' w') a w
  | (i, _ + 1) :: π, a, w => ∃ o v, ops[i]? = some o ∧ YieldsIf P ops S o v a ∧ wkE P ops S Q K π (a.put o.dst v) w
def wkO (P : Program) (ops : Array Oper) (S : World → Prop) (Q : Exit → Act → World → Prop) (K : Act → World → Prop) : Nat → List Nat → Act → World → Prop
  | 0, _, a, w => K a w
  | n + 1, G, a, w => ∀ i ∈ G, wpOp P ops (NoPanic Q) i (fun a' w' => S w' ∧ wkO P ops S Q K n (G.erase i) a' w') a w
section
variable {P : Program} {ops : Array Oper} {S : World → Prop} {Q : Exit → Act → World → Prop} {K : Act → World → Prop} {k : Array Bool → Bool} {m : Nat}
theorem wkO_any (hk : ∀ listed a w, k listed = true → S w → K a w → wpAnyK P .any ops (NoPanic Q) S (fun _ => true) m listed a w) : ∀ (n : Nat) (G : List Nat) (listed : Array Bool) (a : Act) (w : World), G.length = n →
    okG ops k n G listed = true → S w → wkO P ops S Q K n G a w → wpAnyK P .any ops (NoPanic Q) S (fun _ => true) (n + m) listed a w
  | 0, G, listed, a, w, hl, hok, hS, h => by rw [Nat.zero_add]; exact hk listed a w hok hS h
  | n + 1, G, listed, a, w, hl, hok, hS, h => by
    simp only [okG, Bool.and_eq_true, decide_eq_true_eq] at hok
    rw [show n + 1 + m = (n + m) + 1 by omega]
    refine ⟨fun h0 => (by rw [hok.1] at h0; rw [h0] at hl; cases hl), fun j hj => ?_⟩
    rw [hok.1] at hj
    exact wpOp_mono (fun a' w' ⟨hS', h'⟩ => ⟨fun _ _ => hS', wkO_any hk n _ _ a' w' (by rw [List.length_erase_of_mem hj]; omega) (List.all_eq_true.1 hok.2 j hj) hS' h'⟩) (h j hj)
theorem wkE_any (hs : Region.noSelect ops = true) (hk : ∀ listed a w, k listed = true → S w → K a w → wpAnyK P .any ops (NoPanic Q) S (fun _ => true) m listed a w) : ∀ (π : List (Nat × Nat)) (listed : Array Bool) (a : Act) (w : World),
    okE ops k π listed = true → S w → wkE P ops S Q K π a w → wpAnyK P .any ops (NoPanic Q) S (fun _ => true) (π.length + m) listed a w
  | [], listed, a, w, hok, hS, h => by rw [List.length_nil, Nat.zero_add]; exact hk listed a w hok hS h
  | (i, 0) :: π, listed, a, w, hok, hS, h => by
    simp only [okE, Bool.and_eq_true, decide_eq_true_eq] at hok
    rw [show ((i, 0) :: π).length + m = (π.length + m) + 1 by simp; omega]
    refine ⟨fun h0 => (by rw [hok.1] at h0; cases h0), fun j hj => ?_⟩
    rw [hok.1] at hj
    obtain rfl : j = i := by simpa using hj
    exact wpOp_mono (fun a' w' ⟨hS', h'⟩ => ⟨fun _ _ => hS', wkE_any hs hk π _ a' w' hok.2 hS' h'⟩) h
  | (i, q + 1) :: π, listed, a, w, hok, hS, h => by
    simp only [okE, Bool.and_eq_true] at hok
    obtain ⟨⟨hr, hf⟩, hok'⟩ := hok
    obtain ⟨o, v, hi, hy, hkk⟩ := h
    have := wkE_any hs hk π _ _ w hok' hS hkk
    rw [show ((i, q + 1) :: π).length + m = (π.length + m) + 1 by simp; omega]
    exact wpAnyK.first hi (Region.noSelect_spec hs) (fun c a w h => h) _ listed a w (fun j hF => by cases hF) (Region.free_spec hi hf) (by simpa using hr) hy hS this
end
/-- a region that draws: a first part, some in any order, a second part -/
theorem wp_drawG {P : Program} {id : Nat} {ops : List Oper} {Q : Exit → Act → World → Prop} {a : Act} {w0 w : World} {M : Nat → Prop} {H : List It} (π : List (Nat × Nat)) (G : List Nat) (π1 : List (Nat × Nat)) (hm : P.follows .mixedOrders = true)
    (hok : (Region.noSelect ops.toArray && Nat.beq (π.length + (G.length + π1.length)) ops.length && okE ops.toArray (okG ops.toArray (okD ops.toArray [] π1) G.length G) π (Array.replicate ops.length false)) = true) (hH : HS w0 M H w)
    (h : wkE P ops.toArray (HS w0 M H) Q (fun a' w' => wkO P ops.toArray (HS w0 M H) Q (fun a2 w2 => wkD P ops.toArray (HS w0 M H) Q [] π1 a2 w2) G.length G a' w') π a w.drew) : (Code.region id ops.toArray true).wp P Q a w := by
  simp only [Bool.and_eq_true] at hok
  obtain ⟨⟨hs, hl⟩, hok⟩ := hok
  have hl' : π.length + (G.length + π1.length) = ops.toArray.size := by simpa using Nat.eq_of_beq_eq_true hl
  have k2 : ∀ (π : List (Nat × Nat)) listed a w, okD ops.toArray [] π listed = true → HS w0 M H w → wkD P ops.toArray (HS w0 M H) Q [] π a w → wpAnyK P .any ops.toArray (NoPanic Q) (HS w0 M H) (fun _ => true) π.length listed a w := fun π listed a w h1 h2 h3 => wpAny_wkD hs [] π listed a w h1 h2 h3
  have k3 := fun (n : Nat) (G : List Nat) listed a w hg h1 h2 h3 => wkO_any (P := P) (Q := Q) (k2 π1) n G listed a w hg h1 h2 h3
  have := wkE_any (P := P) (Q := Q) hs (fun listed a w h1 h2 h3 => k3 G.length G listed a w rfl h1 h2 h3) π _ a w.drew hok hH.drew h
  rw [hl'] at this
  refine wp_region_noPanic (wp_region_any hm (wpAnyK.any (S := HS w0 M H) (F := fun _ => true) _ _ _ _ ?_))
  simpa using this

theorem Op1.mono {P : Program} {N : Nat} {l : List (Nat × Value)} {o : Oper} {w : World} {R R' : Value → World → Prop} (h : Op1 P N l o w R) (hr : ∀ v w', R v w' → R' v w') : Op1 P N l o w R' :=
  fun a hA K Q hK => h a hA K Q fun v w' h' => hK v w' (hr v w' h')

/-! ## what comes, in whichever order -/
structure Ent where
  i : Nat
  d : Nat
  R : Value → It → Prop
structure Dn where
  e : Ent
  v : Value
  it : It
theorem lk_append (l r : List (Nat × Value)) (i : Nat) : lk (l ++ r) i = match lk l i with | some v => some v | none => lk r i := by
  induction l with
  | nil => rfl
  | cons x l ih =>
    obtain ⟨j, v⟩ := x
    simp only [List.cons_append, lk]
    cases Nat.beq j i with
    | true => rfl
    | false => simpa using ih
theorem lk_perm {l r : List (Nat × Value)} (p : l.Perm r) (i : Nat) (hn : (l.map (·.1)).Nodup) : lk l i = lk r i := by
  induction p with
  | nil => rfl
  | cons x p ih =>
    obtain ⟨j, v⟩ := x
    simp only [lk, ih (List.nodup_cons.1 hn).2]
  | swap x y l =>
    obtain ⟨j, v⟩ := x
    obtain ⟨k, u⟩ := y
    have hne : k ≠ j := by
      simp only [List.map_cons, List.nodup_cons, List.mem_cons] at hn
      exact fun h => hn.1 (.inl h)
    simp only [lk]
    cases hj : Nat.beq j i with
    | false => cases Nat.beq k i <;> rfl
    | true =>
      cases hk : Nat.beq k i with
      | false => rfl
      | true => exact absurd ((Nat.eq_of_beq_eq_true hk).trans (Nat.eq_of_beq_eq_true hj).symm) hne
  | trans p1 p2 ih1 ih2 => exact (ih1 hn).trans (ih2 ((p1.map _).nodup_iff.1 hn))
theorem perm_lift {E : List Ent} : ∀ {D : List Dn}, (D.map (·.e)).Perm E → ∃ D', D.Perm D' ∧ D'.map (·.e) = E := by
  induction E with
  | nil =>
    intro D h
    have : D = [] := by simpa using h.length_eq
    exact ⟨[], by rw [this], rfl⟩
  | cons g E ih =>
    intro D h
    obtain ⟨x, hx, he⟩ := List.mem_map.1 (h.symm.subset (List.mem_cons_self ..))
    obtain ⟨A, B, rfl⟩ := List.append_of_mem hx
    have h2 : ((A ++ B).map (·.e)).Perm E := by
      have h3 : ((A ++ x :: B).map (·.e)).Perm (x.e :: (A ++ B).map (·.e)) := List.Perm.map Dn.e (List.perm_middle)
      rw [he] at h3
      exact (List.perm_cons g).1 (h3.symm.trans h)
    obtain ⟨D', p, e⟩ := ih h2
    exact ⟨x :: D', List.perm_middle.trans (p.cons x), by rw [List.map_cons, e, he]⟩
section
variable {P : Program} {N : Nat} {l : List (Nat × Value)} {ops : Array Oper} {Q : Exit → Act → World → Prop} {K : Act → World → Prop} {w0 : World} {M : Nat → Prop} {H : List It}
def EntOk (P : Program) (N : Nat) (l : List (Nat × Value)) (ops : Array Oper) (w0 : World) (M : Nat → Prop) (H : List It) (e : Ent) : Prop :=
  lk l e.d = none ∧ e.d < N ∧ ∃ o : Oper, ops[e.i]? = some o ∧ gd ops l o.guard = some true ∧ o.dst = some e.d ∧ ∀ He w, HS w0 M (He ++ H) w → Op1 P N l o w (fun v w' => ∃ it, e.R v it ∧ HS w0 M (it :: (He ++ H)) w')
theorem wkO_come {E : List Ent} (hE : ∀ e ∈ E, EntOk P N l ops w0 M H e) (hd : (E.map (·.d)).Nodup) (hi : (E.map (·.i)).Nodup)
    (hK : ∀ (D : List Dn) a w, D.map (·.e) = E → (∀ x ∈ D, x.e.R x.v x.it) → HS w0 M (D.map (·.it) ++ H) w → Sl N (D.map (fun x => (x.e.d, x.v)) ++ l) a → K a w) :
    ∀ (n : Nat) (R : List Ent) (D : List Dn) (a : Act) (w : World), R.length = n → (D.map (·.e) ++ R).Perm E → (∀ x ∈ D, x.e.R x.v x.it) → HS w0 M (D.map (·.it) ++ H) w → Sl N (D.map (fun x => (x.e.d, x.v)) ++ l) a →
      wkO P ops (HS w0 M H) Q K n (R.map (·.i)) a w := by
  intro n
  induction n with
  | zero =>
    intro R D a w hn p hR hH hA
    obtain rfl : R = [] := List.length_eq_zero_iff.1 hn
    rw [List.append_nil] at p
    obtain ⟨D', p1, e⟩ := perm_lift p
    refine hK D' a w e (fun x hx => hR x (p1.symm.subset hx)) (hH.perm ((p1.map _).append_right _)) ?_
    have hnd : ((D.map (fun x => (x.e.d, x.v))).map (·.1)).Nodup := by
      rw [List.map_map]
      have h1 := (p.map (·.d)).nodup_iff.2 hd
      rw [List.map_map] at h1
      exact h1
    refine ⟨hA.defers, hA.size, fun i v h => hA.get i v ?_⟩
    rw [lk_append] at h ⊢
    rw [lk_perm (p1.map (fun x : Dn => (x.e.d, x.v))) i hnd]
    exact h
  | succ n ih =>
    intro R D a w hn p hR hH hA
    intro i hiR
    obtain ⟨e, he, rfl⟩ := List.mem_map.1 hiR
    obtain ⟨A, B, rfl⟩ := List.append_of_mem he
    have heE : e ∈ E := p.subset (List.mem_append_right _ he)
    obtain ⟨h5, h4, o, h1, h2, h3, h6⟩ := hE e heE
    have hnR : ((A ++ e :: B).map (·.i)).Nodup := by
      have h7 := (p.map (·.i)).nodup_iff.2 hi
      rw [List.map_append] at h7
      exact (List.nodup_append.1 h7).2.1
    have her : ((A ++ e :: B).map (·.i)).erase e.i = (A ++ B).map (·.i) := by
      rw [List.map_append, List.map_cons]
      have hnA : e.i ∉ A.map (·.i) := by
        rw [List.map_append, List.map_cons] at hnR
        intro hc
        exact (List.nodup_append.1 hnR).2.2 _ hc _ (List.mem_cons_self ..) rfl
      rw [List.erase_append_right _ hnA, List.erase_cons_head, List.map_append]
    rw [her]
    have hnd : ∀ x ∈ D, x.e.d ≠ e.d := by
      intro x hx hc
      have h7 := (p.map (·.d)).nodup_iff.2 hd
      rw [List.map_append] at h7
      exact (List.nodup_append.1 h7).2.2 _ (List.mem_map.2 ⟨x.e, List.mem_map.2 ⟨x, hx, rfl⟩, rfl⟩) _ (List.mem_map.2 ⟨e, he, rfl⟩) hc
    have hfree : ∀ x ∈ D, lk l x.e.d = none := by
      intro x hx
      exact (hE x.e (p.subset (List.mem_append_left _ (List.mem_map.2 ⟨x, hx, rfl⟩)))).1
    have hAl : Sl N l a := by
      refine ⟨hA.defers, hA.size, fun j v h => hA.get j v ?_⟩
      rw [lk_append]
      have : lk (D.map (fun x => (x.e.d, x.v))) j = none := by
        clear hA hH p hR ih hnd
        induction D with
        | nil => rfl
        | cons x D ihD =>
          have hx := hfree x (List.mem_cons_self ..)
          simp only [List.map_cons, lk]
          cases hj : Nat.beq x.e.d j with
          | false => simpa using ihD (fun y hy => hfree y (List.mem_cons_of_mem _ hy))
          | true =>
            have := Nat.eq_of_beq_eq_true hj
            rw [this, h] at hx
            cases hx
      rw [this]
      exact h
    unfold wpOp
    simp only [h1, hAl.gd h2, if_true]
    refine .inl (h6 _ w hH a hAl _ _ fun v w' ⟨it, hr, hw⟩ => ⟨?_, ?_⟩)
    · exact (HS.right (H1 := it :: D.map Dn.it) hw)
    · rw [h3]
      refine ih (A ++ B) (⟨e, v, it⟩ :: D) _ w' ?_ ?_ ?_ hw ?_
      · simp only [List.length_append, List.length_cons] at hn ⊢; omega
      · refine List.Perm.trans ?_ p
        show (e :: (D.map (·.e) ++ (A ++ B))).Perm _
        rw [← List.append_assoc, ← List.append_assoc]
        exact (List.perm_middle (l₁ := D.map (·.e) ++ A) (l₂ := B)).symm
      · intro x hx
        rcases List.mem_cons.1 hx with rfl | hx
        · exact hr
        · exact hR x hx
      · exact hA.put h4 v
/-- three of them -/
theorem wkO_three {e1 e2 e3 : Ent} {a : Act} {w : World} (hA : Sl N l a) (hH : HS w0 M H w) (h1 : EntOk P N l ops w0 M H e1) (h2 : EntOk P N l ops w0 M H e2) (h3 : EntOk P N l ops w0 M H e3)
    (hd : [e1.d, e2.d, e3.d].Nodup) (hi : [e1.i, e2.i, e3.i].Nodup)
    (hK : ∀ v1 it1 v2 it2 v3 it3 w' a', e1.R v1 it1 → e2.R v2 it2 → e3.R v3 it3 → HS w0 M (it1 :: it2 :: it3 :: H) w' → Sl N ((e1.d, v1) :: (e2.d, v2) :: (e3.d, v3) :: l) a' → K a' w') :
    wkO P ops (HS w0 M H) Q K 3 [e1.i, e2.i, e3.i] a w := by
  refine wkO_come (E := [e1, e2, e3]) (fun e he => ?_) hd hi (fun D a' w' hD hR hH' hA' => ?_) 3 [e1, e2, e3] [] a w rfl (.refl _) (fun x hx => absurd hx (List.not_mem_nil)) hH hA
  · simp only [List.mem_cons, List.not_mem_nil, or_false] at he
    rcases he with rfl | rfl | rfl
    · exact h1
    · exact h2
    · exact h3
  · obtain ⟨x1, D, rfl⟩ : ∃ x D', D = x :: D' := by cases D with | nil => cases hD | cons x D => exact ⟨x, D, rfl⟩
    obtain ⟨x2, D, rfl⟩ : ∃ x D', D = x :: D' := by cases D with | nil => cases hD | cons x D => exact ⟨x, D, rfl⟩
    obtain ⟨x3, D, rfl⟩ : ∃ x D', D = x :: D' := by cases D with | nil => cases hD | cons x D => exact ⟨x, D, rfl⟩
    obtain rfl : D = [] := by cases D with | nil => rfl | cons x D => cases hD
    injection hD with g1 hD
    injection hD with g2 hD
    injection hD with g3 hD
    subst g1; subst g2; subst g3
    exact hK _ _ _ _ _ _ w' a' (hR _ (.head _)) (hR _ (.tail _ (.head _))) (hR _ (.tail _ (.tail _ (.head _)))) hH' hA'
end
section
variable {P : Program} {N : Nat} {l : List (Nat × Value)} {a : Act} {w : World} {ops : Array Oper} {S : World → Prop} {Q : Exit → Act → World → Prop} {K : Act → World → Prop} {i : Nat} {π : List (Nat × Nat)}
theorem de_nil (h : K a w) : wkE P ops S Q K [] a w := h
theorem de_ex {k : Nat} {o : Oper} {d : Nat} {v : Value} (hA : Sl N l a) (hi : ops[i]? = some o) (hg : gd ops l o.guard = some true) (hd : o.dst = some d) (hdN : d < N)
    (h : Ex P N l S o v) (k' : ∀ a', Sl N ((d, v) :: l) a' → wkE P ops S Q K π a' w) : wkE P ops S Q K ((i, k + 1) :: π) a w := by
  refine ⟨o, v, hi, .inl ⟨hA.gd hg, fun w' hS => h a w' hA hS⟩, ?_⟩
  rw [hd]
  exact k' _ (hA.put hdN v)
end
theorem then_mono {K R : Act → World → Prop} {Q : Exit → Act → World → Prop} (k : ∀ a w, R a w → K a w) : ∀ e a w, Exit.then R Q e a w → Exit.then K Q e a w := by
  intro e a w h
  cases e with
  | normal => exact k _ _ h
  | _ => exact h
/-- two steps, behind which R holds (the other nesting) -/
theorem wp_join3 {P : Program} {c1 c2 : Code} {K : Act → World → Prop} {Q : Exit → Act → World → Prop} {a : Act} {w : World} (R : Act → World → Prop) (h : c1.wp P (Exit.then (c2.wp P (Exit.then R Q)) (Exit.then R Q)) a w) (k : ∀ a w, R a w → K a w) :
    c1.wp P (Exit.then (c2.wp P (Exit.then K Q)) (Exit.then K Q)) a w := by
  refine Code.wp_mono (fun e a w he => ?_) h
  cases e with
  | normal => exact Code.wp_mono (then_mono k) (show c2.wp P (Exit.then R Q) a w from he)
  | _ => exact he
end Go.Fw
namespace Go.Fw
open Go Go.RowKit
set_option linter.unusedVariables false
section
variable {P : Program} {N : Nat} {l : List (Nat × Value)} {C : World → Prop} {d : Option Tmp} {T : TypeId} {pos : String} {af : Array Edge} {g : Option (Nat × Bool)}
theorem ex_eqlPn {t ty : TypeId} {x y : Operand} {p : Option Addr} [h : TPt P t] (hx : ev l x = some (.pointer p)) (hy : ev l y = some (.pointer none)) : Ex P N l C ⟨d, .binOp .eql t x y ty, T, pos, af, g⟩ (.bool p.isNone) := by
  intro a w hA _
  simp [execOp, hA.ev hx, hA.ev hy, eqGuard_at_pointer, run_eql_pointer_nil w t p h.eq]
theorem ex_neqPn {t ty : TypeId} {x y : Operand} {p : Option Addr} [h : TPt P t] (hx : ev l x = some (.pointer p)) (hy : ev l y = some (.pointer none)) : Ex P N l C ⟨d, .binOp .neq t x y ty, T, pos, af, g⟩ (.bool (!p.isNone)) := by
  intro a w hA _
  simp [execOp, hA.ev hx, hA.ev hy, eqGuard_at_pointer, run_neq_pointer_nil w t p h.eq]
theorem ex_eqlPt {t ty : TypeId} {x y : Operand} [h : TPt P t] (hx : ev l x = some (.pointer none)) (hy : ev l y = some (.pointer none)) : Ex P N l C ⟨d, .binOp .eql t x y ty, T, pos, af, g⟩ (.bool true) := ex_eqlPn (h := h) hx hy
theorem ex_eqlPf {t ty : TypeId} {x y : Operand} {p : Addr} [h : TPt P t] (hx : ev l x = some (.pointer (some p))) (hy : ev l y = some (.pointer none)) : Ex P N l C ⟨d, .binOp .eql t x y ty, T, pos, af, g⟩ (.bool false) := ex_eqlPn (h := h) hx hy
theorem ex_neqPf {t ty : TypeId} {x y : Operand} [h : TPt P t] (hx : ev l x = some (.pointer none)) (hy : ev l y = some (.pointer none)) : Ex P N l C ⟨d, .binOp .neq t x y ty, T, pos, af, g⟩ (.bool false) := ex_neqPn (h := h) hx hy
theorem ex_neqPt {t ty : TypeId} {x y : Operand} {p : Addr} [h : TPt P t] (hx : ev l x = some (.pointer (some p))) (hy : ev l y = some (.pointer none)) : Ex P N l C ⟨d, .binOp .neq t x y ty, T, pos, af, g⟩ (.bool true) := ex_neqPn (h := h) hx hy
end
theorem inB_mono {id : Nat} {Q Q' : Exit → Act → World → Prop} (h : ∀ e a w, Q e a w → Q' e a w) : ∀ e a w, Exit.inBlock id Q e a w → Exit.inBlock id Q' e a w := by
  intro e a w he
  cases e <;> simp only [Exit.inBlock] at he ⊢ <;> first | exact h _ _ _ he | (split at he <;> rename_i hc <;> simp only [hc] <;> exact h _ _ _ he)
/-- a loop in a block, behind which R holds; then the rest -/
theorem wp_lpj {P : Program} {a : Act} {w : World} {id : Nat} {K : Act → World → Prop} {Q : Exit → Act → World → Prop} {c : Code} {S : Type} (I : S → Act → World → Prop) (μ : S → Nat) (R : Act → World → Prop) (s : S) (h₀ : I s a w)
    (round : ∀ s a w, I s a w → c.wp P (Exit.then (fun a' w' => ∃ s', I s' a' w' ∧ μ s' < μ s) (Exit.inBlock id (Exit.then R Q))) a w) (k : ∀ a w, R a w → K a w) : (Code.loop c).wp P (Exit.inBlock id (Exit.then K Q)) a w :=
  Code.wp_mono (inB_mono (then_mono k)) (wp_lp I μ s h₀ round)
/-- in a region ahead of a choice: both ways come to R; then the rest -/
theorem st_join {P : Program} {ops : Array Oper} {ls : List Oper} {a : Act} {w : World} {c2 : Code} {K : Act → World → Prop} {Q : Exit → Act → World → Prop} (R : Act → World → Prop)
    (h : wpList P ops (Exit.then (c2.wp P (Exit.then R Q)) (Exit.then R Q)) ls a w) (k : ∀ a w, R a w → K a w) : wpList P ops (Exit.then (c2.wp P (Exit.then K Q)) (Exit.then K Q)) ls a w := by
  induction ls generalizing a w with
  | nil => exact Code.wp_mono (then_mono k) (show c2.wp P (Exit.then R Q) a w from h)
  | cons o rest ih =>
    unfold wpList at h ⊢
    split
    · rename_i hw
      rw [if_pos hw] at h
      rcases h with h | ⟨h1, h2⟩
      · refine .inl (Oper.wp_mono (K := wpList P ops (Exit.then (c2.wp P (Exit.then R Q)) (Exit.then R Q)) rest) (fun a w h => ih h) ?_)
        unfold Oper.wp at *
        generalize (execOp a.eval o).run P w = r at *
        cases r with
        | ok n w' => cases n <;> simp only [Oper.upon] at h ⊢ <;> exact h
        | halt x w' => cases x <;> simp only [Oper.upon] at h ⊢ <;> exact h
      · exact .inr ⟨h1, by obtain ⟨a', w3, h3⟩ := h2; exact ⟨a', w3, h3⟩⟩
    · rename_i hw
      rw [if_neg hw] at h
      exact ih h
section
variable {w0 w : World} {M : Nat → Prop} {p q r : It}
end
/-- a loop in a block, whatever stands behind -/
theorem wp_lpk {P : Program} {a : Act} {w : World} {id : Nat} {Q0 : Exit → Act → World → Prop} {c : Code} {S : Type} (I : S → Act → World → Prop) (μ : S → Nat) (R : Act → World → Prop) (s : S) (h₀ : I s a w)
    (round : ∀ s a w, I s a w → c.wp P (Exit.then (fun a' w' => ∃ s', I s' a' w' ∧ μ s' < μ s) (Exit.inBlock id (Exit.then R Q0))) a w) (k : ∀ a w, R a w → Q0 .normal a w) : (Code.loop c).wp P (Exit.inBlock id Q0) a w :=
  Code.wp_mono (inB_mono (fun e a w he => by
    cases e with
    | normal => exact k _ _ he
    | _ => exact he)) (wp_lp I μ s h₀ round)
end Go.Fw
