/-
  What is known of this seat's types and functions, for the frame. Printed by a program. Conditions: none.
  Graphs as they lie in memory; slices.Backward. Conditions: none.
  Sets: maps from ints to true. Conditions: none.
  What lives: use, clone, step (of the program's sets). Conditions: none.
-/
import Derived.Test.YtjfanjcoppeeaaaRows
import Derived.Test.YtjfanjcoppeeaaaRowMoreMg1
namespace Go.Proofs.Ytjfanjcoppeeaaa
open Go Go.Fw
set_option maxRecDepth 100000
instance : TSc Try.prog 1 := ⟨_, Try.underlying1, rfl⟩
instance : TIf Try.prog 1 .nilFunc [.nilFunc] 1 8 := ⟨⟨Try.t1, rfl, rfl, rfl, rfl⟩, rfl⟩
instance : TSc Try.prog 2 := ⟨_, Try.underlying2, rfl⟩
instance : TIn Try.prog 2 .i64 := ⟨Try.underlying2⟩
instance : TIf Try.prog 2 (.int .i64 0) [(.int .i64 0)] 1 8 := ⟨⟨Try.t2, rfl, rfl, rfl, rfl⟩, rfl⟩
instance : TSc Try.prog 3 := ⟨_, Try.underlying3, rfl⟩
instance : TIn Try.prog 3 .i64 := ⟨Try.underlying3⟩
instance : TIf Try.prog 3 (.int .i64 0) [(.int .i64 0)] 1 8 := ⟨⟨Try.t3, rfl, rfl, rfl, rfl⟩, rfl⟩
instance : TSc Try.prog 4 := ⟨_, Try.underlying4, rfl⟩
instance : TBo Try.prog 4 := ⟨Try.underlying4⟩
instance : TIf Try.prog 4 (.bool false) [(.bool false)] 1 1 := ⟨⟨Try.t4, rfl, rfl, rfl, rfl⟩, rfl⟩
instance : TSc Try.prog 5 := ⟨_, Try.underlying5, rfl⟩
instance : TIn Try.prog 5 .u8 := ⟨Try.underlying5⟩
instance : TIf Try.prog 5 (.int .u8 0) [(.int .u8 0)] 1 1 := ⟨⟨Try.t5, rfl, rfl, rfl, rfl⟩, rfl⟩
instance : TSc Try.prog 6 := ⟨_, Try.underlying6, rfl⟩
instance : TIn Try.prog 6 .u8 := ⟨Try.underlying6⟩
instance : TIf Try.prog 6 (.int .u8 0) [(.int .u8 0)] 1 1 := ⟨⟨Try.t6, rfl, rfl, rfl, rfl⟩, rfl⟩
instance : TSt Try.prog 7 [(2, 0), (3, 1), (4, 2), (6, 3)] := ⟨⟨_, Try.underlying7, rfl⟩, List.forall_mem_cons.2 ⟨⟨Try.t2, rfl, by decide⟩, List.forall_mem_cons.2 ⟨⟨Try.t3, rfl, by decide⟩, List.forall_mem_cons.2 ⟨⟨Try.t4, rfl, by decide⟩, List.forall_mem_cons.2 ⟨⟨Try.t6, rfl, by decide⟩, nofun⟩⟩⟩⟩⟩
instance : TIf Try.prog 7 (.agg #[(.int .i64 0), (.int .i64 0), (.bool false), (.int .u8 0)]) [(.int .i64 0), (.int .i64 0), (.bool false), (.int .u8 0)] 4 24 := ⟨⟨Try.t7, rfl, rfl, rfl, rfl⟩, rfl⟩
instance : TSt Try.prog 8 [(2, 0), (3, 1), (4, 2), (6, 3)] := ⟨⟨_, Try.underlying8, rfl⟩, List.forall_mem_cons.2 ⟨⟨Try.t2, rfl, by decide⟩, List.forall_mem_cons.2 ⟨⟨Try.t3, rfl, by decide⟩, List.forall_mem_cons.2 ⟨⟨Try.t4, rfl, by decide⟩, List.forall_mem_cons.2 ⟨⟨Try.t6, rfl, by decide⟩, nofun⟩⟩⟩⟩⟩
instance : TIf Try.prog 8 (.agg #[(.int .i64 0), (.int .i64 0), (.bool false), (.int .u8 0)]) [(.int .i64 0), (.int .i64 0), (.bool false), (.int .u8 0)] 4 24 := ⟨⟨Try.t8, rfl, rfl, rfl, rfl⟩, rfl⟩
instance : TSc Try.prog 9 := ⟨_, Try.underlying9, rfl⟩
instance : TSr Try.prog 9 := ⟨Try.underlying9⟩
instance : TIf Try.prog 9 (.string ByteArray.empty) [(.string ByteArray.empty)] 1 16 := ⟨⟨Try.t9, rfl, rfl, rfl, rfl⟩, rfl⟩
instance : TSc Try.prog 10 := ⟨_, Try.underlying10, rfl⟩
instance : TSr Try.prog 10 := ⟨Try.underlying10⟩
instance : TIf Try.prog 10 (.string ByteArray.empty) [(.string ByteArray.empty)] 1 16 := ⟨⟨Try.t10, rfl, rfl, rfl, rfl⟩, rfl⟩
instance : TSc Try.prog 11 := ⟨_, Try.underlying11, rfl⟩
instance : TSr Try.prog 11 := ⟨Try.underlying11⟩
instance : TIf Try.prog 11 (.string ByteArray.empty) [(.string ByteArray.empty)] 1 16 := ⟨⟨Try.t11, rfl, rfl, rfl, rfl⟩, rfl⟩
instance : TSc Try.prog 12 := ⟨_, Try.underlying12, rfl⟩
instance : TIn Try.prog 12 .u64 := ⟨Try.underlying12⟩
instance : TIf Try.prog 12 (.int .u64 0) [(.int .u64 0)] 1 8 := ⟨⟨Try.t12, rfl, rfl, rfl, rfl⟩, rfl⟩
instance : TSt Try.prog 13 [(9, 0), (12, 1)] := ⟨⟨_, Try.underlying13, rfl⟩, List.forall_mem_cons.2 ⟨⟨Try.t9, rfl, by decide⟩, List.forall_mem_cons.2 ⟨⟨Try.t12, rfl, by decide⟩, nofun⟩⟩⟩
instance : TIf Try.prog 13 (.agg #[(.string ByteArray.empty), (.int .u64 0)]) [(.string ByteArray.empty), (.int .u64 0)] 2 24 := ⟨⟨Try.t13, rfl, rfl, rfl, rfl⟩, rfl⟩
instance : TSt Try.prog 14 [(9, 0), (12, 1)] := ⟨⟨_, Try.underlying14, rfl⟩, List.forall_mem_cons.2 ⟨⟨Try.t9, rfl, by decide⟩, List.forall_mem_cons.2 ⟨⟨Try.t12, rfl, by decide⟩, nofun⟩⟩⟩
instance : TIf Try.prog 14 (.agg #[(.string ByteArray.empty), (.int .u64 0)]) [(.string ByteArray.empty), (.int .u64 0)] 2 24 := ⟨⟨Try.t14, rfl, rfl, rfl, rfl⟩, rfl⟩
instance : TSc Try.prog 15 := ⟨_, Try.underlying15, rfl⟩
instance : TPt Try.prog 15 := ⟨by unfold Program.pointee; rw [Try.underlying15]⟩
instance : TIf Try.prog 15 (.pointer none) [(.pointer none)] 1 8 := ⟨⟨Try.t15, rfl, rfl, rfl, rfl⟩, rfl⟩
instance : TSc Try.prog 16 := ⟨_, Try.underlying16, rfl⟩
instance : TPt Try.prog 16 := ⟨by unfold Program.pointee; rw [Try.underlying16]⟩
instance : TIf Try.prog 16 (.pointer none) [(.pointer none)] 1 8 := ⟨⟨Try.t16, rfl, rfl, rfl, rfl⟩, rfl⟩
instance : TSc Try.prog 17 := ⟨_, Try.underlying17, rfl⟩
instance : TPt Try.prog 17 := ⟨by unfold Program.pointee; rw [Try.underlying17]⟩
instance : TIf Try.prog 17 (.pointer none) [(.pointer none)] 1 8 := ⟨⟨Try.t17, rfl, rfl, rfl, rfl⟩, rfl⟩
instance : TSt Try.prog 18 [(17, 0)] := ⟨⟨_, Try.underlying18, rfl⟩, List.forall_mem_cons.2 ⟨⟨Try.t17, rfl, by decide⟩, nofun⟩⟩
instance : TIf Try.prog 18 (.agg #[(.pointer none)]) [(.pointer none)] 1 8 := ⟨⟨Try.t18, rfl, rfl, rfl, rfl⟩, rfl⟩
instance : TSt Try.prog 19 [(17, 0)] := ⟨⟨_, Try.underlying19, rfl⟩, List.forall_mem_cons.2 ⟨⟨Try.t17, rfl, by decide⟩, nofun⟩⟩
instance : TIf Try.prog 19 (.agg #[(.pointer none)]) [(.pointer none)] 1 8 := ⟨⟨Try.t19, rfl, rfl, rfl, rfl⟩, rfl⟩
instance : TSc Try.prog 20 := ⟨_, Try.underlying20, rfl⟩
instance : TIf Try.prog 20 .nilIface [.nilIface] 1 16 := ⟨⟨Try.t20, rfl, rfl, rfl, rfl⟩, rfl⟩
instance : TSc Try.prog 21 := ⟨_, Try.underlying21, rfl⟩
instance : TIn Try.prog 21 .i32 := ⟨Try.underlying21⟩
instance : TIf Try.prog 21 (.int .i32 0) [(.int .i32 0)] 1 4 := ⟨⟨Try.t21, rfl, rfl, rfl, rfl⟩, rfl⟩
instance : TSc Try.prog 22 := ⟨_, Try.underlying22, rfl⟩
instance : TSl Try.prog 22 30 := ⟨Try.underlying22⟩
instance : TIf Try.prog 22 (.slice none 0 0) [(.slice none 0 0)] 1 24 := ⟨⟨Try.t22, rfl, rfl, rfl, rfl⟩, rfl⟩
instance : TSc Try.prog 23 := ⟨_, Try.underlying23, rfl⟩
instance : TSl Try.prog 23 9 := ⟨Try.underlying23⟩
instance : TIf Try.prog 23 (.slice none 0 0) [(.slice none 0 0)] 1 24 := ⟨⟨Try.t23, rfl, rfl, rfl, rfl⟩, rfl⟩
instance : TSt Try.prog 24 [(22, 0), (23, 1), (23, 2), (23, 3), (23, 4)] := ⟨⟨_, Try.underlying24, rfl⟩, List.forall_mem_cons.2 ⟨⟨Try.t22, rfl, by decide⟩, List.forall_mem_cons.2 ⟨⟨Try.t23, rfl, by decide⟩, List.forall_mem_cons.2 ⟨⟨Try.t23, rfl, by decide⟩, List.forall_mem_cons.2 ⟨⟨Try.t23, rfl, by decide⟩, List.forall_mem_cons.2 ⟨⟨Try.t23, rfl, by decide⟩, nofun⟩⟩⟩⟩⟩⟩
instance : TIf Try.prog 24 (.agg #[(.slice none 0 0), (.slice none 0 0), (.slice none 0 0), (.slice none 0 0), (.slice none 0 0)]) [(.slice none 0 0), (.slice none 0 0), (.slice none 0 0), (.slice none 0 0), (.slice none 0 0)] 5 120 := ⟨⟨Try.t24, rfl, rfl, rfl, rfl⟩, rfl⟩
instance : TSt Try.prog 25 [(22, 0), (23, 1), (23, 2), (23, 3), (23, 4)] := ⟨⟨_, Try.underlying25, rfl⟩, List.forall_mem_cons.2 ⟨⟨Try.t22, rfl, by decide⟩, List.forall_mem_cons.2 ⟨⟨Try.t23, rfl, by decide⟩, List.forall_mem_cons.2 ⟨⟨Try.t23, rfl, by decide⟩, List.forall_mem_cons.2 ⟨⟨Try.t23, rfl, by decide⟩, List.forall_mem_cons.2 ⟨⟨Try.t23, rfl, by decide⟩, nofun⟩⟩⟩⟩⟩⟩
instance : TIf Try.prog 25 (.agg #[(.slice none 0 0), (.slice none 0 0), (.slice none 0 0), (.slice none 0 0), (.slice none 0 0)]) [(.slice none 0 0), (.slice none 0 0), (.slice none 0 0), (.slice none 0 0), (.slice none 0 0)] 5 120 := ⟨⟨Try.t25, rfl, rfl, rfl, rfl⟩, rfl⟩
instance : TSc Try.prog 26 := ⟨_, Try.underlying26, rfl⟩
instance : TSl Try.prog 26 40 := ⟨Try.underlying26⟩
instance : TIf Try.prog 26 (.slice none 0 0) [(.slice none 0 0)] 1 24 := ⟨⟨Try.t26, rfl, rfl, rfl, rfl⟩, rfl⟩
instance : TSc Try.prog 27 := ⟨_, Try.underlying27, rfl⟩
instance : TIf Try.prog 27 .nilFunc [.nilFunc] 1 8 := ⟨⟨Try.t27, rfl, rfl, rfl, rfl⟩, rfl⟩
instance : TSc Try.prog 28 := ⟨_, Try.underlying28, rfl⟩
instance : TSl Try.prog 28 52 := ⟨Try.underlying28⟩
instance : TIf Try.prog 28 (.slice none 0 0) [(.slice none 0 0)] 1 24 := ⟨⟨Try.t28, rfl, rfl, rfl, rfl⟩, rfl⟩
instance : TSt Try.prog 29 [(3, 0), (28, 1)] := ⟨⟨_, Try.underlying29, rfl⟩, List.forall_mem_cons.2 ⟨⟨Try.t3, rfl, by decide⟩, List.forall_mem_cons.2 ⟨⟨Try.t28, rfl, by decide⟩, nofun⟩⟩⟩
instance : TIf Try.prog 29 (.agg #[(.int .i64 0), (.slice none 0 0)]) [(.int .i64 0), (.slice none 0 0)] 2 32 := ⟨⟨Try.t29, rfl, rfl, rfl, rfl⟩, rfl⟩
instance : TSt Try.prog 30 [(3, 0), (28, 1)] := ⟨⟨_, Try.underlying30, rfl⟩, List.forall_mem_cons.2 ⟨⟨Try.t3, rfl, by decide⟩, List.forall_mem_cons.2 ⟨⟨Try.t28, rfl, by decide⟩, nofun⟩⟩⟩
instance : TIf Try.prog 30 (.agg #[(.int .i64 0), (.slice none 0 0)]) [(.int .i64 0), (.slice none 0 0)] 2 32 := ⟨⟨Try.t30, rfl, rfl, rfl, rfl⟩, rfl⟩
instance : TSc Try.prog 32 := ⟨_, Try.underlying32, rfl⟩
instance : TIf Try.prog 32 .nilFunc [.nilFunc] 1 8 := ⟨⟨Try.t32, rfl, rfl, rfl, rfl⟩, rfl⟩
instance : TSc Try.prog 33 := ⟨_, Try.underlying33, rfl⟩
instance : TIf Try.prog 33 .nilFunc [.nilFunc] 1 8 := ⟨⟨Try.t33, rfl, rfl, rfl, rfl⟩, rfl⟩
instance : TSc Try.prog 34 := ⟨_, Try.underlying34, rfl⟩
instance : TIf Try.prog 34 .nilFunc [.nilFunc] 1 8 := ⟨⟨Try.t34, rfl, rfl, rfl, rfl⟩, rfl⟩
instance : TSc Try.prog 35 := ⟨_, Try.underlying35, rfl⟩
instance : TIn Try.prog 35 .i64 := ⟨Try.underlying35⟩
instance : TIf Try.prog 35 (.int .i64 0) [(.int .i64 0)] 1 8 := ⟨⟨Try.t35, rfl, rfl, rfl, rfl⟩, rfl⟩
instance : TSc Try.prog 37 := ⟨_, Try.underlying37, rfl⟩
instance : TIf Try.prog 37 .nilFunc [.nilFunc] 1 8 := ⟨⟨Try.t37, rfl, rfl, rfl, rfl⟩, rfl⟩
instance : TSc Try.prog 38 := ⟨_, Try.underlying38, rfl⟩
instance : TIf Try.prog 38 .nilFunc [.nilFunc] 1 8 := ⟨⟨Try.t38, rfl, rfl, rfl, rfl⟩, rfl⟩
instance : TSt Try.prog 39 [(3, 0), (3, 1)] := ⟨⟨_, Try.underlying39, rfl⟩, List.forall_mem_cons.2 ⟨⟨Try.t3, rfl, by decide⟩, List.forall_mem_cons.2 ⟨⟨Try.t3, rfl, by decide⟩, nofun⟩⟩⟩
instance : TIf Try.prog 39 (.agg #[(.int .i64 0), (.int .i64 0)]) [(.int .i64 0), (.int .i64 0)] 2 16 := ⟨⟨Try.t39, rfl, rfl, rfl, rfl⟩, rfl⟩
instance : TSt Try.prog 40 [(3, 0), (3, 1)] := ⟨⟨_, Try.underlying40, rfl⟩, List.forall_mem_cons.2 ⟨⟨Try.t3, rfl, by decide⟩, List.forall_mem_cons.2 ⟨⟨Try.t3, rfl, by decide⟩, nofun⟩⟩⟩
instance : TIf Try.prog 40 (.agg #[(.int .i64 0), (.int .i64 0)]) [(.int .i64 0), (.int .i64 0)] 2 16 := ⟨⟨Try.t40, rfl, rfl, rfl, rfl⟩, rfl⟩
instance : TSc Try.prog 41 := ⟨_, Try.underlying41, rfl⟩
instance : TIf Try.prog 41 .nilFunc [.nilFunc] 1 8 := ⟨⟨Try.t41, rfl, rfl, rfl, rfl⟩, rfl⟩
instance : TSc Try.prog 42 := ⟨_, Try.underlying42, rfl⟩
instance : TSl Try.prog 42 44 := ⟨Try.underlying42⟩
instance : TIf Try.prog 42 (.slice none 0 0) [(.slice none 0 0)] 1 24 := ⟨⟨Try.t42, rfl, rfl, rfl, rfl⟩, rfl⟩
instance : TSc Try.prog 43 := ⟨_, Try.underlying43, rfl⟩
instance : TIf Try.prog 43 .nilFunc [.nilFunc] 1 8 := ⟨⟨Try.t43, rfl, rfl, rfl, rfl⟩, rfl⟩
instance : TSc Try.prog 44 := ⟨_, Try.underlying44, rfl⟩
instance : TSl Try.prog 44 3 := ⟨Try.underlying44⟩
instance : TIf Try.prog 44 (.slice none 0 0) [(.slice none 0 0)] 1 24 := ⟨⟨Try.t44, rfl, rfl, rfl, rfl⟩, rfl⟩
instance : TSc Try.prog 45 := ⟨_, Try.underlying45, rfl⟩
instance : TSl Try.prog 45 58 := ⟨Try.underlying45⟩
instance : TIf Try.prog 45 (.slice none 0 0) [(.slice none 0 0)] 1 24 := ⟨⟨Try.t45, rfl, rfl, rfl, rfl⟩, rfl⟩
instance : TSc Try.prog 46 := ⟨_, Try.underlying46, rfl⟩
instance : TSl Try.prog 46 63 := ⟨Try.underlying46⟩
instance : TIf Try.prog 46 (.slice none 0 0) [(.slice none 0 0)] 1 24 := ⟨⟨Try.t46, rfl, rfl, rfl, rfl⟩, rfl⟩
instance : TSc Try.prog 47 := ⟨_, Try.underlying47, rfl⟩
instance : TSl Try.prog 47 2 := ⟨Try.underlying47⟩
instance : TIf Try.prog 47 (.slice none 0 0) [(.slice none 0 0)] 1 24 := ⟨⟨Try.t47, rfl, rfl, rfl, rfl⟩, rfl⟩
instance : TSc Try.prog 48 := ⟨_, Try.underlying48, rfl⟩
instance : TSl Try.prog 48 54 := ⟨Try.underlying48⟩
instance : TIf Try.prog 48 (.slice none 0 0) [(.slice none 0 0)] 1 24 := ⟨⟨Try.t48, rfl, rfl, rfl, rfl⟩, rfl⟩
instance : TSt Try.prog 49 [(3, 0), (46, 1), (47, 2), (48, 3)] := ⟨⟨_, Try.underlying49, rfl⟩, List.forall_mem_cons.2 ⟨⟨Try.t3, rfl, by decide⟩, List.forall_mem_cons.2 ⟨⟨Try.t46, rfl, by decide⟩, List.forall_mem_cons.2 ⟨⟨Try.t47, rfl, by decide⟩, List.forall_mem_cons.2 ⟨⟨Try.t48, rfl, by decide⟩, nofun⟩⟩⟩⟩⟩
instance : TIf Try.prog 49 (.agg #[(.int .i64 0), (.slice none 0 0), (.slice none 0 0), (.slice none 0 0)]) [(.int .i64 0), (.slice none 0 0), (.slice none 0 0), (.slice none 0 0)] 4 80 := ⟨⟨Try.t49, rfl, rfl, rfl, rfl⟩, rfl⟩
instance : TSt Try.prog 50 [(3, 0), (46, 1), (47, 2), (48, 3)] := ⟨⟨_, Try.underlying50, rfl⟩, List.forall_mem_cons.2 ⟨⟨Try.t3, rfl, by decide⟩, List.forall_mem_cons.2 ⟨⟨Try.t46, rfl, by decide⟩, List.forall_mem_cons.2 ⟨⟨Try.t47, rfl, by decide⟩, List.forall_mem_cons.2 ⟨⟨Try.t48, rfl, by decide⟩, nofun⟩⟩⟩⟩⟩
instance : TIf Try.prog 50 (.agg #[(.int .i64 0), (.slice none 0 0), (.slice none 0 0), (.slice none 0 0)]) [(.int .i64 0), (.slice none 0 0), (.slice none 0 0), (.slice none 0 0)] 4 80 := ⟨⟨Try.t50, rfl, rfl, rfl, rfl⟩, rfl⟩
instance : TSt Try.prog 51 [(44, 0), (45, 1), (50, 2)] := ⟨⟨_, Try.underlying51, rfl⟩, List.forall_mem_cons.2 ⟨⟨Try.t44, rfl, by decide⟩, List.forall_mem_cons.2 ⟨⟨Try.t45, rfl, by decide⟩, List.forall_mem_cons.2 ⟨⟨Try.t50, rfl, by decide⟩, nofun⟩⟩⟩⟩
instance : TIf Try.prog 51 (.agg #[(.slice none 0 0), (.slice none 0 0), (.int .i64 0), (.slice none 0 0), (.slice none 0 0), (.slice none 0 0)]) [(.slice none 0 0), (.slice none 0 0), (.int .i64 0), (.slice none 0 0), (.slice none 0 0), (.slice none 0 0)] 6 128 := ⟨⟨Try.t51, rfl, rfl, rfl, rfl⟩, rfl⟩
instance : TSt Try.prog 52 [(44, 0), (45, 1), (50, 2)] := ⟨⟨_, Try.underlying52, rfl⟩, List.forall_mem_cons.2 ⟨⟨Try.t44, rfl, by decide⟩, List.forall_mem_cons.2 ⟨⟨Try.t45, rfl, by decide⟩, List.forall_mem_cons.2 ⟨⟨Try.t50, rfl, by decide⟩, nofun⟩⟩⟩⟩
instance : TIf Try.prog 52 (.agg #[(.slice none 0 0), (.slice none 0 0), (.int .i64 0), (.slice none 0 0), (.slice none 0 0), (.slice none 0 0)]) [(.slice none 0 0), (.slice none 0 0), (.int .i64 0), (.slice none 0 0), (.slice none 0 0), (.slice none 0 0)] 6 128 := ⟨⟨Try.t52, rfl, rfl, rfl, rfl⟩, rfl⟩
instance : TSt Try.prog 53 [(3, 0), (46, 1)] := ⟨⟨_, Try.underlying53, rfl⟩, List.forall_mem_cons.2 ⟨⟨Try.t3, rfl, by decide⟩, List.forall_mem_cons.2 ⟨⟨Try.t46, rfl, by decide⟩, nofun⟩⟩⟩
instance : TIf Try.prog 53 (.agg #[(.int .i64 0), (.slice none 0 0)]) [(.int .i64 0), (.slice none 0 0)] 2 32 := ⟨⟨Try.t53, rfl, rfl, rfl, rfl⟩, rfl⟩
instance : TSt Try.prog 54 [(3, 0), (46, 1)] := ⟨⟨_, Try.underlying54, rfl⟩, List.forall_mem_cons.2 ⟨⟨Try.t3, rfl, by decide⟩, List.forall_mem_cons.2 ⟨⟨Try.t46, rfl, by decide⟩, nofun⟩⟩⟩
instance : TIf Try.prog 54 (.agg #[(.int .i64 0), (.slice none 0 0)]) [(.int .i64 0), (.slice none 0 0)] 2 32 := ⟨⟨Try.t54, rfl, rfl, rfl, rfl⟩, rfl⟩
instance : TSt Try.prog 55 [(3, 0), (2, 1), (47, 2), (46, 3)] := ⟨⟨_, Try.underlying55, rfl⟩, List.forall_mem_cons.2 ⟨⟨Try.t3, rfl, by decide⟩, List.forall_mem_cons.2 ⟨⟨Try.t2, rfl, by decide⟩, List.forall_mem_cons.2 ⟨⟨Try.t47, rfl, by decide⟩, List.forall_mem_cons.2 ⟨⟨Try.t46, rfl, by decide⟩, nofun⟩⟩⟩⟩⟩
instance : TIf Try.prog 55 (.agg #[(.int .i64 0), (.int .i64 0), (.slice none 0 0), (.slice none 0 0)]) [(.int .i64 0), (.int .i64 0), (.slice none 0 0), (.slice none 0 0)] 4 64 := ⟨⟨Try.t55, rfl, rfl, rfl, rfl⟩, rfl⟩
instance : TSt Try.prog 56 [(3, 0), (2, 1), (47, 2), (46, 3)] := ⟨⟨_, Try.underlying56, rfl⟩, List.forall_mem_cons.2 ⟨⟨Try.t3, rfl, by decide⟩, List.forall_mem_cons.2 ⟨⟨Try.t2, rfl, by decide⟩, List.forall_mem_cons.2 ⟨⟨Try.t47, rfl, by decide⟩, List.forall_mem_cons.2 ⟨⟨Try.t46, rfl, by decide⟩, nofun⟩⟩⟩⟩⟩
instance : TIf Try.prog 56 (.agg #[(.int .i64 0), (.int .i64 0), (.slice none 0 0), (.slice none 0 0)]) [(.int .i64 0), (.int .i64 0), (.slice none 0 0), (.slice none 0 0)] 4 64 := ⟨⟨Try.t56, rfl, rfl, rfl, rfl⟩, rfl⟩
instance : TSt Try.prog 57 [(3, 0), (56, 1)] := ⟨⟨_, Try.underlying57, rfl⟩, List.forall_mem_cons.2 ⟨⟨Try.t3, rfl, by decide⟩, List.forall_mem_cons.2 ⟨⟨Try.t56, rfl, by decide⟩, nofun⟩⟩⟩
instance : TIf Try.prog 57 (.agg #[(.int .i64 0), (.int .i64 0), (.int .i64 0), (.slice none 0 0), (.slice none 0 0)]) [(.int .i64 0), (.int .i64 0), (.int .i64 0), (.slice none 0 0), (.slice none 0 0)] 5 72 := ⟨⟨Try.t57, rfl, rfl, rfl, rfl⟩, rfl⟩
instance : TSt Try.prog 58 [(3, 0), (56, 1)] := ⟨⟨_, Try.underlying58, rfl⟩, List.forall_mem_cons.2 ⟨⟨Try.t3, rfl, by decide⟩, List.forall_mem_cons.2 ⟨⟨Try.t56, rfl, by decide⟩, nofun⟩⟩⟩
instance : TIf Try.prog 58 (.agg #[(.int .i64 0), (.int .i64 0), (.int .i64 0), (.slice none 0 0), (.slice none 0 0)]) [(.int .i64 0), (.int .i64 0), (.int .i64 0), (.slice none 0 0), (.slice none 0 0)] 5 72 := ⟨⟨Try.t58, rfl, rfl, rfl, rfl⟩, rfl⟩
instance : TSc Try.prog 59 := ⟨_, Try.underlying59, rfl⟩
instance : TIf Try.prog 59 .nilFunc [.nilFunc] 1 8 := ⟨⟨Try.t59, rfl, rfl, rfl, rfl⟩, rfl⟩
instance : TSc Try.prog 60 := ⟨_, Try.underlying60, rfl⟩
instance : TIf Try.prog 60 .nilFunc [.nilFunc] 1 8 := ⟨⟨Try.t60, rfl, rfl, rfl, rfl⟩, rfl⟩
instance : TSc Try.prog 61 := ⟨_, Try.underlying61, rfl⟩
instance : TIf Try.prog 61 .nilFunc [.nilFunc] 1 8 := ⟨⟨Try.t61, rfl, rfl, rfl, rfl⟩, rfl⟩
instance : TSt Try.prog 62 [(3, 0), (2, 1)] := ⟨⟨_, Try.underlying62, rfl⟩, List.forall_mem_cons.2 ⟨⟨Try.t3, rfl, by decide⟩, List.forall_mem_cons.2 ⟨⟨Try.t2, rfl, by decide⟩, nofun⟩⟩⟩
instance : TIf Try.prog 62 (.agg #[(.int .i64 0), (.int .i64 0)]) [(.int .i64 0), (.int .i64 0)] 2 16 := ⟨⟨Try.t62, rfl, rfl, rfl, rfl⟩, rfl⟩
instance : TSt Try.prog 63 [(3, 0), (2, 1)] := ⟨⟨_, Try.underlying63, rfl⟩, List.forall_mem_cons.2 ⟨⟨Try.t3, rfl, by decide⟩, List.forall_mem_cons.2 ⟨⟨Try.t2, rfl, by decide⟩, nofun⟩⟩⟩
instance : TIf Try.prog 63 (.agg #[(.int .i64 0), (.int .i64 0)]) [(.int .i64 0), (.int .i64 0)] 2 16 := ⟨⟨Try.t63, rfl, rfl, rfl, rfl⟩, rfl⟩
instance : TSc Try.prog 64 := ⟨_, Try.underlying64, rfl⟩
instance : TIf Try.prog 64 .nilFunc [.nilFunc] 1 8 := ⟨⟨Try.t64, rfl, rfl, rfl, rfl⟩, rfl⟩
instance : TSc Try.prog 65 := ⟨_, Try.underlying65, rfl⟩
instance : TIf Try.prog 65 .nilFunc [.nilFunc] 1 8 := ⟨⟨Try.t65, rfl, rfl, rfl, rfl⟩, rfl⟩
instance : TSc Try.prog 66 := ⟨_, Try.underlying66, rfl⟩
instance : TIf Try.prog 66 .nilFunc [.nilFunc] 1 8 := ⟨⟨Try.t66, rfl, rfl, rfl, rfl⟩, rfl⟩
instance : TSc Try.prog 67 := ⟨_, Try.underlying67, rfl⟩
instance : TMp Try.prog 67 3 3 := ⟨Try.underlying67⟩
instance : TIf Try.prog 67 (.map none) [(.map none)] 1 8 := ⟨⟨Try.t67, rfl, rfl, rfl, rfl⟩, rfl⟩
instance : TSc Try.prog 68 := ⟨_, Try.underlying68, rfl⟩
instance : TIf Try.prog 68 .nilFunc [.nilFunc] 1 8 := ⟨⟨Try.t68, rfl, rfl, rfl, rfl⟩, rfl⟩
instance : TSc Try.prog 69 := ⟨_, Try.underlying69, rfl⟩
instance : TIf Try.prog 69 .nilFunc [.nilFunc] 1 8 := ⟨⟨Try.t69, rfl, rfl, rfl, rfl⟩, rfl⟩
instance : TSc Try.prog 70 := ⟨_, Try.underlying70, rfl⟩
instance : TIf Try.prog 70 .nilFunc [.nilFunc] 1 8 := ⟨⟨Try.t70, rfl, rfl, rfl, rfl⟩, rfl⟩
instance : TSc Try.prog 71 := ⟨_, Try.underlying71, rfl⟩
instance : TMp Try.prog 71 3 4 := ⟨Try.underlying71⟩
instance : TIf Try.prog 71 (.map none) [(.map none)] 1 8 := ⟨⟨Try.t71, rfl, rfl, rfl, rfl⟩, rfl⟩
instance : TSc Try.prog 72 := ⟨_, Try.underlying72, rfl⟩
instance : TMp Try.prog 72 3 4 := ⟨Try.underlying72⟩
instance : TIf Try.prog 72 (.map none) [(.map none)] 1 8 := ⟨⟨Try.t72, rfl, rfl, rfl, rfl⟩, rfl⟩
instance : TSc Try.prog 73 := ⟨_, Try.underlying73, rfl⟩
instance : TIf Try.prog 73 .nilFunc [.nilFunc] 1 8 := ⟨⟨Try.t73, rfl, rfl, rfl, rfl⟩, rfl⟩
instance : TSc Try.prog 74 := ⟨_, Try.underlying74, rfl⟩
instance : TIf Try.prog 74 .nilFunc [.nilFunc] 1 8 := ⟨⟨Try.t74, rfl, rfl, rfl, rfl⟩, rfl⟩
instance : TSc Try.prog 75 := ⟨_, Try.underlying75, rfl⟩
instance : TIf Try.prog 75 .nilFunc [.nilFunc] 1 8 := ⟨⟨Try.t75, rfl, rfl, rfl, rfl⟩, rfl⟩
instance : TSc Try.prog 76 := ⟨_, Try.underlying76, rfl⟩
instance : TIf Try.prog 76 .nilFunc [.nilFunc] 1 8 := ⟨⟨Try.t76, rfl, rfl, rfl, rfl⟩, rfl⟩
instance : TSc Try.prog 77 := ⟨_, Try.underlying77, rfl⟩
instance : TIf Try.prog 77 .nilFunc [.nilFunc] 1 8 := ⟨⟨Try.t77, rfl, rfl, rfl, rfl⟩, rfl⟩
instance : TSc Try.prog 78 := ⟨_, Try.underlying78, rfl⟩
instance : TIf Try.prog 78 .nilFunc [.nilFunc] 1 8 := ⟨⟨Try.t78, rfl, rfl, rfl, rfl⟩, rfl⟩
instance : TSc Try.prog 79 := ⟨_, Try.underlying79, rfl⟩
instance : TIf Try.prog 79 .nilFunc [.nilFunc] 1 8 := ⟨⟨Try.t79, rfl, rfl, rfl, rfl⟩, rfl⟩
instance : TSc Try.prog 80 := ⟨_, Try.underlying80, rfl⟩
instance : TSl Try.prog 80 72 := ⟨Try.underlying80⟩
instance : TIf Try.prog 80 (.slice none 0 0) [(.slice none 0 0)] 1 24 := ⟨⟨Try.t80, rfl, rfl, rfl, rfl⟩, rfl⟩
instance : TSc Try.prog 81 := ⟨_, Try.underlying81, rfl⟩
instance : TIf Try.prog 81 .nilFunc [.nilFunc] 1 8 := ⟨⟨Try.t81, rfl, rfl, rfl, rfl⟩, rfl⟩
instance : TSc Try.prog 82 := ⟨_, Try.underlying82, rfl⟩
instance : TIf Try.prog 82 .nilFunc [.nilFunc] 1 8 := ⟨⟨Try.t82, rfl, rfl, rfl, rfl⟩, rfl⟩
instance : TSc Try.prog 83 := ⟨_, Try.underlying83, rfl⟩
instance : TSl Try.prog 83 85 := ⟨Try.underlying83⟩
instance : TIf Try.prog 83 (.slice none 0 0) [(.slice none 0 0)] 1 24 := ⟨⟨Try.t83, rfl, rfl, rfl, rfl⟩, rfl⟩
instance : TSt Try.prog 84 [(3, 0), (3, 1), (44, 2), (3, 3), (47, 4), (56, 5), (46, 9), (83, 10)] := ⟨⟨_, Try.underlying84, rfl⟩, List.forall_mem_cons.2 ⟨⟨Try.t3, rfl, by decide⟩, List.forall_mem_cons.2 ⟨⟨Try.t3, rfl, by decide⟩, List.forall_mem_cons.2 ⟨⟨Try.t44, rfl, by decide⟩, List.forall_mem_cons.2 ⟨⟨Try.t3, rfl, by decide⟩, List.forall_mem_cons.2 ⟨⟨Try.t47, rfl, by decide⟩, List.forall_mem_cons.2 ⟨⟨Try.t56, rfl, by decide⟩, List.forall_mem_cons.2 ⟨⟨Try.t46, rfl, by decide⟩, List.forall_mem_cons.2 ⟨⟨Try.t83, rfl, by decide⟩, nofun⟩⟩⟩⟩⟩⟩⟩⟩⟩
instance : TIf Try.prog 84 (.agg #[(.int .i64 0), (.int .i64 0), (.slice none 0 0), (.int .i64 0), (.slice none 0 0), (.int .i64 0), (.int .i64 0), (.slice none 0 0), (.slice none 0 0), (.slice none 0 0), (.slice none 0 0)]) [(.int .i64 0), (.int .i64 0), (.slice none 0 0), (.int .i64 0), (.slice none 0 0), (.int .i64 0), (.int .i64 0), (.slice none 0 0), (.slice none 0 0), (.slice none 0 0), (.slice none 0 0)] 11 184 := ⟨⟨Try.t84, rfl, rfl, rfl, rfl⟩, rfl⟩
instance : TSt Try.prog 85 [(3, 0), (3, 1), (44, 2), (3, 3), (47, 4), (56, 5), (46, 9), (83, 10)] := ⟨⟨_, Try.underlying85, rfl⟩, List.forall_mem_cons.2 ⟨⟨Try.t3, rfl, by decide⟩, List.forall_mem_cons.2 ⟨⟨Try.t3, rfl, by decide⟩, List.forall_mem_cons.2 ⟨⟨Try.t44, rfl, by decide⟩, List.forall_mem_cons.2 ⟨⟨Try.t3, rfl, by decide⟩, List.forall_mem_cons.2 ⟨⟨Try.t47, rfl, by decide⟩, List.forall_mem_cons.2 ⟨⟨Try.t56, rfl, by decide⟩, List.forall_mem_cons.2 ⟨⟨Try.t46, rfl, by decide⟩, List.forall_mem_cons.2 ⟨⟨Try.t83, rfl, by decide⟩, nofun⟩⟩⟩⟩⟩⟩⟩⟩⟩
instance : TIf Try.prog 85 (.agg #[(.int .i64 0), (.int .i64 0), (.slice none 0 0), (.int .i64 0), (.slice none 0 0), (.int .i64 0), (.int .i64 0), (.slice none 0 0), (.slice none 0 0), (.slice none 0 0), (.slice none 0 0)]) [(.int .i64 0), (.int .i64 0), (.slice none 0 0), (.int .i64 0), (.slice none 0 0), (.int .i64 0), (.int .i64 0), (.slice none 0 0), (.slice none 0 0), (.slice none 0 0), (.slice none 0 0)] 11 184 := ⟨⟨Try.t85, rfl, rfl, rfl, rfl⟩, rfl⟩
instance : TSc Try.prog 86 := ⟨_, Try.underlying86, rfl⟩
instance : TSl Try.prog 86 90 := ⟨Try.underlying86⟩
instance : TIf Try.prog 86 (.slice none 0 0) [(.slice none 0 0)] 1 24 := ⟨⟨Try.t86, rfl, rfl, rfl, rfl⟩, rfl⟩
instance : TSt Try.prog 87 [(86, 0), (23, 1), (23, 2), (23, 3), (23, 4)] := ⟨⟨_, Try.underlying87, rfl⟩, List.forall_mem_cons.2 ⟨⟨Try.t86, rfl, by decide⟩, List.forall_mem_cons.2 ⟨⟨Try.t23, rfl, by decide⟩, List.forall_mem_cons.2 ⟨⟨Try.t23, rfl, by decide⟩, List.forall_mem_cons.2 ⟨⟨Try.t23, rfl, by decide⟩, List.forall_mem_cons.2 ⟨⟨Try.t23, rfl, by decide⟩, nofun⟩⟩⟩⟩⟩⟩
instance : TIf Try.prog 87 (.agg #[(.slice none 0 0), (.slice none 0 0), (.slice none 0 0), (.slice none 0 0), (.slice none 0 0)]) [(.slice none 0 0), (.slice none 0 0), (.slice none 0 0), (.slice none 0 0), (.slice none 0 0)] 5 120 := ⟨⟨Try.t87, rfl, rfl, rfl, rfl⟩, rfl⟩
instance : TSt Try.prog 88 [(86, 0), (23, 1), (23, 2), (23, 3), (23, 4)] := ⟨⟨_, Try.underlying88, rfl⟩, List.forall_mem_cons.2 ⟨⟨Try.t86, rfl, by decide⟩, List.forall_mem_cons.2 ⟨⟨Try.t23, rfl, by decide⟩, List.forall_mem_cons.2 ⟨⟨Try.t23, rfl, by decide⟩, List.forall_mem_cons.2 ⟨⟨Try.t23, rfl, by decide⟩, List.forall_mem_cons.2 ⟨⟨Try.t23, rfl, by decide⟩, nofun⟩⟩⟩⟩⟩⟩
instance : TIf Try.prog 88 (.agg #[(.slice none 0 0), (.slice none 0 0), (.slice none 0 0), (.slice none 0 0), (.slice none 0 0)]) [(.slice none 0 0), (.slice none 0 0), (.slice none 0 0), (.slice none 0 0), (.slice none 0 0)] 5 120 := ⟨⟨Try.t88, rfl, rfl, rfl, rfl⟩, rfl⟩
instance : TSt Try.prog 89 [(3, 0), (85, 1)] := ⟨⟨_, Try.underlying89, rfl⟩, List.forall_mem_cons.2 ⟨⟨Try.t3, rfl, by decide⟩, List.forall_mem_cons.2 ⟨⟨Try.t85, rfl, by decide⟩, nofun⟩⟩⟩
instance : TIf Try.prog 89 (.agg #[(.int .i64 0), (.int .i64 0), (.int .i64 0), (.slice none 0 0), (.int .i64 0), (.slice none 0 0), (.int .i64 0), (.int .i64 0), (.slice none 0 0), (.slice none 0 0), (.slice none 0 0), (.slice none 0 0)]) [(.int .i64 0), (.int .i64 0), (.int .i64 0), (.slice none 0 0), (.int .i64 0), (.slice none 0 0), (.int .i64 0), (.int .i64 0), (.slice none 0 0), (.slice none 0 0), (.slice none 0 0), (.slice none 0 0)] 12 192 := ⟨⟨Try.t89, rfl, rfl, rfl, rfl⟩, rfl⟩
instance : TSt Try.prog 90 [(3, 0), (85, 1)] := ⟨⟨_, Try.underlying90, rfl⟩, List.forall_mem_cons.2 ⟨⟨Try.t3, rfl, by decide⟩, List.forall_mem_cons.2 ⟨⟨Try.t85, rfl, by decide⟩, nofun⟩⟩⟩
instance : TIf Try.prog 90 (.agg #[(.int .i64 0), (.int .i64 0), (.int .i64 0), (.slice none 0 0), (.int .i64 0), (.slice none 0 0), (.int .i64 0), (.int .i64 0), (.slice none 0 0), (.slice none 0 0), (.slice none 0 0), (.slice none 0 0)]) [(.int .i64 0), (.int .i64 0), (.int .i64 0), (.slice none 0 0), (.int .i64 0), (.slice none 0 0), (.int .i64 0), (.int .i64 0), (.slice none 0 0), (.slice none 0 0), (.slice none 0 0), (.slice none 0 0)] 12 192 := ⟨⟨Try.t90, rfl, rfl, rfl, rfl⟩, rfl⟩
instance : TSc Try.prog 91 := ⟨_, Try.underlying91, rfl⟩
instance : TIf Try.prog 91 .nilFunc [.nilFunc] 1 8 := ⟨⟨Try.t91, rfl, rfl, rfl, rfl⟩, rfl⟩
instance : TSc Try.prog 92 := ⟨_, Try.underlying92, rfl⟩
instance : TPt Try.prog 92 := ⟨by unfold Program.pointee; rw [Try.underlying92]⟩
instance : TIf Try.prog 92 (.pointer none) [(.pointer none)] 1 8 := ⟨⟨Try.t92, rfl, rfl, rfl, rfl⟩, rfl⟩
instance : TSc Try.prog 93 := ⟨_, Try.underlying93, rfl⟩
instance : TSl Try.prog 93 71 := ⟨Try.underlying93⟩
instance : TIf Try.prog 93 (.slice none 0 0) [(.slice none 0 0)] 1 24 := ⟨⟨Try.t93, rfl, rfl, rfl, rfl⟩, rfl⟩
instance : TSt Try.prog 94 [(25, 0), (30, 5), (44, 7), (3, 8), (71, 9), (93, 10)] := ⟨⟨_, Try.underlying94, rfl⟩, List.forall_mem_cons.2 ⟨⟨Try.t25, rfl, by decide⟩, List.forall_mem_cons.2 ⟨⟨Try.t30, rfl, by decide⟩, List.forall_mem_cons.2 ⟨⟨Try.t44, rfl, by decide⟩, List.forall_mem_cons.2 ⟨⟨Try.t3, rfl, by decide⟩, List.forall_mem_cons.2 ⟨⟨Try.t71, rfl, by decide⟩, List.forall_mem_cons.2 ⟨⟨Try.t93, rfl, by decide⟩, nofun⟩⟩⟩⟩⟩⟩⟩
instance : TIf Try.prog 94 (.agg #[(.slice none 0 0), (.slice none 0 0), (.slice none 0 0), (.slice none 0 0), (.slice none 0 0), (.int .i64 0), (.slice none 0 0), (.slice none 0 0), (.int .i64 0), (.map none), (.slice none 0 0)]) [(.slice none 0 0), (.slice none 0 0), (.slice none 0 0), (.slice none 0 0), (.slice none 0 0), (.int .i64 0), (.slice none 0 0), (.slice none 0 0), (.int .i64 0), (.map none), (.slice none 0 0)] 11 216 := ⟨⟨Try.t94, rfl, rfl, rfl, rfl⟩, rfl⟩
instance : TSt Try.prog 95 [(25, 0), (30, 5), (44, 7), (3, 8), (71, 9), (93, 10)] := ⟨⟨_, Try.underlying95, rfl⟩, List.forall_mem_cons.2 ⟨⟨Try.t25, rfl, by decide⟩, List.forall_mem_cons.2 ⟨⟨Try.t30, rfl, by decide⟩, List.forall_mem_cons.2 ⟨⟨Try.t44, rfl, by decide⟩, List.forall_mem_cons.2 ⟨⟨Try.t3, rfl, by decide⟩, List.forall_mem_cons.2 ⟨⟨Try.t71, rfl, by decide⟩, List.forall_mem_cons.2 ⟨⟨Try.t93, rfl, by decide⟩, nofun⟩⟩⟩⟩⟩⟩⟩
instance : TIf Try.prog 95 (.agg #[(.slice none 0 0), (.slice none 0 0), (.slice none 0 0), (.slice none 0 0), (.slice none 0 0), (.int .i64 0), (.slice none 0 0), (.slice none 0 0), (.int .i64 0), (.map none), (.slice none 0 0)]) [(.slice none 0 0), (.slice none 0 0), (.slice none 0 0), (.slice none 0 0), (.slice none 0 0), (.int .i64 0), (.slice none 0 0), (.slice none 0 0), (.int .i64 0), (.map none), (.slice none 0 0)] 11 216 := ⟨⟨Try.t95, rfl, rfl, rfl, rfl⟩, rfl⟩
instance : TSc Try.prog 96 := ⟨_, Try.underlying96, rfl⟩
instance : TIf Try.prog 96 .nilFunc [.nilFunc] 1 8 := ⟨⟨Try.t96, rfl, rfl, rfl, rfl⟩, rfl⟩
instance : TSc Try.prog 97 := ⟨_, Try.underlying97, rfl⟩
instance : TIf Try.prog 97 .nilFunc [.nilFunc] 1 8 := ⟨⟨Try.t97, rfl, rfl, rfl, rfl⟩, rfl⟩
instance : TSc Try.prog 98 := ⟨_, Try.underlying98, rfl⟩
instance : TIf Try.prog 98 .nilFunc [.nilFunc] 1 8 := ⟨⟨Try.t98, rfl, rfl, rfl, rfl⟩, rfl⟩
instance : TSc Try.prog 99 := ⟨_, Try.underlying99, rfl⟩
instance : TIn Try.prog 99 .u64 := ⟨Try.underlying99⟩
instance : TIf Try.prog 99 (.int .u64 0) [(.int .u64 0)] 1 8 := ⟨⟨Try.t99, rfl, rfl, rfl, rfl⟩, rfl⟩
instance : TSc Try.prog 100 := ⟨_, Try.underlying100, rfl⟩
instance : TIf Try.prog 100 .nilFunc [.nilFunc] 1 8 := ⟨⟨Try.t100, rfl, rfl, rfl, rfl⟩, rfl⟩
instance : TSc Try.prog 101 := ⟨_, Try.underlying101, rfl⟩
instance : TIf Try.prog 101 .nilFunc [.nilFunc] 1 8 := ⟨⟨Try.t101, rfl, rfl, rfl, rfl⟩, rfl⟩
instance : TSc Try.prog 102 := ⟨_, Try.underlying102, rfl⟩
instance : TIf Try.prog 102 .nilFunc [.nilFunc] 1 8 := ⟨⟨Try.t102, rfl, rfl, rfl, rfl⟩, rfl⟩
instance : TSc Try.prog 103 := ⟨_, Try.underlying103, rfl⟩
instance : TIf Try.prog 103 .nilFunc [.nilFunc] 1 8 := ⟨⟨Try.t103, rfl, rfl, rfl, rfl⟩, rfl⟩
instance : TSc Try.prog 104 := ⟨_, Try.underlying104, rfl⟩
instance : TIf Try.prog 104 .nilFunc [.nilFunc] 1 8 := ⟨⟨Try.t104, rfl, rfl, rfl, rfl⟩, rfl⟩
instance : TSc Try.prog 105 := ⟨_, Try.underlying105, rfl⟩
instance : TIf Try.prog 105 .nilFunc [.nilFunc] 1 8 := ⟨⟨Try.t105, rfl, rfl, rfl, rfl⟩, rfl⟩
instance : TSc Try.prog 106 := ⟨_, Try.underlying106, rfl⟩
instance : TIf Try.prog 106 .nilFunc [.nilFunc] 1 8 := ⟨⟨Try.t106, rfl, rfl, rfl, rfl⟩, rfl⟩
instance : TSc Try.prog 107 := ⟨_, Try.underlying107, rfl⟩
instance : TIf Try.prog 107 .nilFunc [.nilFunc] 1 8 := ⟨⟨Try.t107, rfl, rfl, rfl, rfl⟩, rfl⟩
instance : TSc Try.prog 108 := ⟨_, Try.underlying108, rfl⟩
instance : TIf Try.prog 108 .nilFunc [.nilFunc] 1 8 := ⟨⟨Try.t108, rfl, rfl, rfl, rfl⟩, rfl⟩
instance : TSc Try.prog 109 := ⟨_, Try.underlying109, rfl⟩
instance : TIf Try.prog 109 .nilFunc [.nilFunc] 1 8 := ⟨⟨Try.t109, rfl, rfl, rfl, rfl⟩, rfl⟩
instance : TSc Try.prog 110 := ⟨_, Try.underlying110, rfl⟩
instance : TIf Try.prog 110 .nilFunc [.nilFunc] 1 8 := ⟨⟨Try.t110, rfl, rfl, rfl, rfl⟩, rfl⟩
instance : TSc Try.prog 111 := ⟨_, Try.underlying111, rfl⟩
instance : TPt Try.prog 111 := ⟨by unfold Program.pointee; rw [Try.underlying111]⟩
instance : TIf Try.prog 111 (.pointer none) [(.pointer none)] 1 8 := ⟨⟨Try.t111, rfl, rfl, rfl, rfl⟩, rfl⟩
instance : TSt Try.prog 112 [(88, 0), (44, 5), (3, 6), (3, 7), (71, 8), (71, 9), (67, 10), (71, 11)] := ⟨⟨_, Try.underlying112, rfl⟩, List.forall_mem_cons.2 ⟨⟨Try.t88, rfl, by decide⟩, List.forall_mem_cons.2 ⟨⟨Try.t44, rfl, by decide⟩, List.forall_mem_cons.2 ⟨⟨Try.t3, rfl, by decide⟩, List.forall_mem_cons.2 ⟨⟨Try.t3, rfl, by decide⟩, List.forall_mem_cons.2 ⟨⟨Try.t71, rfl, by decide⟩, List.forall_mem_cons.2 ⟨⟨Try.t71, rfl, by decide⟩, List.forall_mem_cons.2 ⟨⟨Try.t67, rfl, by decide⟩, List.forall_mem_cons.2 ⟨⟨Try.t71, rfl, by decide⟩, nofun⟩⟩⟩⟩⟩⟩⟩⟩⟩
instance : TIf Try.prog 112 (.agg #[(.slice none 0 0), (.slice none 0 0), (.slice none 0 0), (.slice none 0 0), (.slice none 0 0), (.slice none 0 0), (.int .i64 0), (.int .i64 0), (.map none), (.map none), (.map none), (.map none)]) [(.slice none 0 0), (.slice none 0 0), (.slice none 0 0), (.slice none 0 0), (.slice none 0 0), (.slice none 0 0), (.int .i64 0), (.int .i64 0), (.map none), (.map none), (.map none), (.map none)] 12 192 := ⟨⟨Try.t112, rfl, rfl, rfl, rfl⟩, rfl⟩
instance : TSt Try.prog 113 [(88, 0), (44, 5), (3, 6), (3, 7), (71, 8), (71, 9), (67, 10), (71, 11)] := ⟨⟨_, Try.underlying113, rfl⟩, List.forall_mem_cons.2 ⟨⟨Try.t88, rfl, by decide⟩, List.forall_mem_cons.2 ⟨⟨Try.t44, rfl, by decide⟩, List.forall_mem_cons.2 ⟨⟨Try.t3, rfl, by decide⟩, List.forall_mem_cons.2 ⟨⟨Try.t3, rfl, by decide⟩, List.forall_mem_cons.2 ⟨⟨Try.t71, rfl, by decide⟩, List.forall_mem_cons.2 ⟨⟨Try.t71, rfl, by decide⟩, List.forall_mem_cons.2 ⟨⟨Try.t67, rfl, by decide⟩, List.forall_mem_cons.2 ⟨⟨Try.t71, rfl, by decide⟩, nofun⟩⟩⟩⟩⟩⟩⟩⟩⟩
instance : TIf Try.prog 113 (.agg #[(.slice none 0 0), (.slice none 0 0), (.slice none 0 0), (.slice none 0 0), (.slice none 0 0), (.slice none 0 0), (.int .i64 0), (.int .i64 0), (.map none), (.map none), (.map none), (.map none)]) [(.slice none 0 0), (.slice none 0 0), (.slice none 0 0), (.slice none 0 0), (.slice none 0 0), (.slice none 0 0), (.int .i64 0), (.int .i64 0), (.map none), (.map none), (.map none), (.map none)] 12 192 := ⟨⟨Try.t113, rfl, rfl, rfl, rfl⟩, rfl⟩
instance : TSc Try.prog 114 := ⟨_, Try.underlying114, rfl⟩
instance : TIf Try.prog 114 .nilFunc [.nilFunc] 1 8 := ⟨⟨Try.t114, rfl, rfl, rfl, rfl⟩, rfl⟩
instance : TSc Try.prog 115 := ⟨_, Try.underlying115, rfl⟩
instance : TIf Try.prog 115 .nilFunc [.nilFunc] 1 8 := ⟨⟨Try.t115, rfl, rfl, rfl, rfl⟩, rfl⟩
instance : TSc Try.prog 116 := ⟨_, Try.underlying116, rfl⟩
instance : TIf Try.prog 116 .nilFunc [.nilFunc] 1 8 := ⟨⟨Try.t116, rfl, rfl, rfl, rfl⟩, rfl⟩
instance : TSc Try.prog 117 := ⟨_, Try.underlying117, rfl⟩
instance : TIf Try.prog 117 .nilFunc [.nilFunc] 1 8 := ⟨⟨Try.t117, rfl, rfl, rfl, rfl⟩, rfl⟩
instance : TSc Try.prog 118 := ⟨_, Try.underlying118, rfl⟩
instance : TIf Try.prog 118 .nilFunc [.nilFunc] 1 8 := ⟨⟨Try.t118, rfl, rfl, rfl, rfl⟩, rfl⟩
instance : TSc Try.prog 119 := ⟨_, Try.underlying119, rfl⟩
instance : TIf Try.prog 119 .nilFunc [.nilFunc] 1 8 := ⟨⟨Try.t119, rfl, rfl, rfl, rfl⟩, rfl⟩
instance : TSc Try.prog 120 := ⟨_, Try.underlying120, rfl⟩
instance : TIf Try.prog 120 .nilFunc [.nilFunc] 1 8 := ⟨⟨Try.t120, rfl, rfl, rfl, rfl⟩, rfl⟩
instance : TSc Try.prog 121 := ⟨_, Try.underlying121, rfl⟩
instance : TIn Try.prog 121 .i64 := ⟨Try.underlying121⟩
instance : TIf Try.prog 121 (.int .i64 0) [(.int .i64 0)] 1 8 := ⟨⟨Try.t121, rfl, rfl, rfl, rfl⟩, rfl⟩
instance : TSc Try.prog 123 := ⟨_, Try.underlying123, rfl⟩
instance : TIf Try.prog 123 .nilFunc [.nilFunc] 1 8 := ⟨⟨Try.t123, rfl, rfl, rfl, rfl⟩, rfl⟩
instance : TSc Try.prog 124 := ⟨_, Try.underlying124, rfl⟩
instance : TIf Try.prog 124 .nilFunc [.nilFunc] 1 8 := ⟨⟨Try.t124, rfl, rfl, rfl, rfl⟩, rfl⟩
instance : TSc Try.prog 125 := ⟨_, Try.underlying125, rfl⟩
instance : TIf Try.prog 125 .nilFunc [.nilFunc] 1 8 := ⟨⟨Try.t125, rfl, rfl, rfl, rfl⟩, rfl⟩
instance : TSc Try.prog 126 := ⟨_, Try.underlying126, rfl⟩
instance : TIf Try.prog 126 .nilFunc [.nilFunc] 1 8 := ⟨⟨Try.t126, rfl, rfl, rfl, rfl⟩, rfl⟩
instance : TSc Try.prog 128 := ⟨_, Try.underlying128, rfl⟩
instance : TIf Try.prog 128 .nilFunc [.nilFunc] 1 8 := ⟨⟨Try.t128, rfl, rfl, rfl, rfl⟩, rfl⟩
instance : TSc Try.prog 129 := ⟨_, Try.underlying129, rfl⟩
instance : TIf Try.prog 129 .nilFunc [.nilFunc] 1 8 := ⟨⟨Try.t129, rfl, rfl, rfl, rfl⟩, rfl⟩
instance : TSc Try.prog 130 := ⟨_, Try.underlying130, rfl⟩
instance : TIn Try.prog 130 .u32 := ⟨Try.underlying130⟩
instance : TIf Try.prog 130 (.int .u32 0) [(.int .u32 0)] 1 4 := ⟨⟨Try.t130, rfl, rfl, rfl, rfl⟩, rfl⟩
instance : TSc Try.prog 131 := ⟨_, Try.underlying131, rfl⟩
instance : TIf Try.prog 131 .nilFunc [.nilFunc] 1 8 := ⟨⟨Try.t131, rfl, rfl, rfl, rfl⟩, rfl⟩
instance : TSc Try.prog 132 := ⟨_, Try.underlying132, rfl⟩
instance : TIn Try.prog 132 .u64 := ⟨Try.underlying132⟩
instance : TIf Try.prog 132 (.int .u64 0) [(.int .u64 0)] 1 8 := ⟨⟨Try.t132, rfl, rfl, rfl, rfl⟩, rfl⟩
instance : TSc Try.prog 133 := ⟨_, Try.underlying133, rfl⟩
instance : TIf Try.prog 133 .nilFunc [.nilFunc] 1 8 := ⟨⟨Try.t133, rfl, rfl, rfl, rfl⟩, rfl⟩
instance : TSc Try.prog 134 := ⟨_, Try.underlying134, rfl⟩
instance : TIf Try.prog 134 .nilFunc [.nilFunc] 1 8 := ⟨⟨Try.t134, rfl, rfl, rfl, rfl⟩, rfl⟩
instance : TSc Try.prog 135 := ⟨_, Try.underlying135, rfl⟩
instance : TIf Try.prog 135 .nilFunc [.nilFunc] 1 8 := ⟨⟨Try.t135, rfl, rfl, rfl, rfl⟩, rfl⟩
instance : TSc Try.prog 136 := ⟨_, Try.underlying136, rfl⟩
instance : TSl Try.prog 136 4 := ⟨Try.underlying136⟩
instance : TIf Try.prog 136 (.slice none 0 0) [(.slice none 0 0)] 1 24 := ⟨⟨Try.t136, rfl, rfl, rfl, rfl⟩, rfl⟩
instance : TSc Try.prog 137 := ⟨_, Try.underlying137, rfl⟩
instance : TIf Try.prog 137 .nilFunc [.nilFunc] 1 8 := ⟨⟨Try.t137, rfl, rfl, rfl, rfl⟩, rfl⟩
instance : TSc Try.prog 138 := ⟨_, Try.underlying138, rfl⟩
instance : TIf Try.prog 138 .nilFunc [.nilFunc] 1 8 := ⟨⟨Try.t138, rfl, rfl, rfl, rfl⟩, rfl⟩
instance : TSt Try.prog 139 [(4, 0), (4, 1), (4, 2), (4, 3), (4, 4), (3, 5), (3, 6)] := ⟨⟨_, Try.underlying139, rfl⟩, List.forall_mem_cons.2 ⟨⟨Try.t4, rfl, by decide⟩, List.forall_mem_cons.2 ⟨⟨Try.t4, rfl, by decide⟩, List.forall_mem_cons.2 ⟨⟨Try.t4, rfl, by decide⟩, List.forall_mem_cons.2 ⟨⟨Try.t4, rfl, by decide⟩, List.forall_mem_cons.2 ⟨⟨Try.t4, rfl, by decide⟩, List.forall_mem_cons.2 ⟨⟨Try.t3, rfl, by decide⟩, List.forall_mem_cons.2 ⟨⟨Try.t3, rfl, by decide⟩, nofun⟩⟩⟩⟩⟩⟩⟩⟩
instance : TIf Try.prog 139 (.agg #[(.bool false), (.bool false), (.bool false), (.bool false), (.bool false), (.int .i64 0), (.int .i64 0)]) [(.bool false), (.bool false), (.bool false), (.bool false), (.bool false), (.int .i64 0), (.int .i64 0)] 7 24 := ⟨⟨Try.t139, rfl, rfl, rfl, rfl⟩, rfl⟩
instance : TSt Try.prog 140 [(4, 0), (4, 1), (4, 2), (4, 3), (4, 4), (3, 5), (3, 6)] := ⟨⟨_, Try.underlying140, rfl⟩, List.forall_mem_cons.2 ⟨⟨Try.t4, rfl, by decide⟩, List.forall_mem_cons.2 ⟨⟨Try.t4, rfl, by decide⟩, List.forall_mem_cons.2 ⟨⟨Try.t4, rfl, by decide⟩, List.forall_mem_cons.2 ⟨⟨Try.t4, rfl, by decide⟩, List.forall_mem_cons.2 ⟨⟨Try.t4, rfl, by decide⟩, List.forall_mem_cons.2 ⟨⟨Try.t3, rfl, by decide⟩, List.forall_mem_cons.2 ⟨⟨Try.t3, rfl, by decide⟩, nofun⟩⟩⟩⟩⟩⟩⟩⟩
instance : TIf Try.prog 140 (.agg #[(.bool false), (.bool false), (.bool false), (.bool false), (.bool false), (.int .i64 0), (.int .i64 0)]) [(.bool false), (.bool false), (.bool false), (.bool false), (.bool false), (.int .i64 0), (.int .i64 0)] 7 24 := ⟨⟨Try.t140, rfl, rfl, rfl, rfl⟩, rfl⟩
instance : TSc Try.prog 142 := ⟨_, Try.underlying142, rfl⟩
instance : TIf Try.prog 142 .nilFunc [.nilFunc] 1 8 := ⟨⟨Try.t142, rfl, rfl, rfl, rfl⟩, rfl⟩
instance : TSc Try.prog 143 := ⟨_, Try.underlying143, rfl⟩
instance : TIf Try.prog 143 .nilFunc [.nilFunc] 1 8 := ⟨⟨Try.t143, rfl, rfl, rfl, rfl⟩, rfl⟩
instance : TSc Try.prog 144 := ⟨_, Try.underlying144, rfl⟩
instance : TIf Try.prog 144 .nilFunc [.nilFunc] 1 8 := ⟨⟨Try.t144, rfl, rfl, rfl, rfl⟩, rfl⟩
instance : TSc Try.prog 145 := ⟨_, Try.underlying145, rfl⟩
instance : TIf Try.prog 145 .nilFunc [.nilFunc] 1 8 := ⟨⟨Try.t145, rfl, rfl, rfl, rfl⟩, rfl⟩
instance : TSc Try.prog 146 := ⟨_, Try.underlying146, rfl⟩
instance : TIf Try.prog 146 .nilFunc [.nilFunc] 1 8 := ⟨⟨Try.t146, rfl, rfl, rfl, rfl⟩, rfl⟩
instance : TSc Try.prog 147 := ⟨_, Try.underlying147, rfl⟩
instance : TIf Try.prog 147 .nilFunc [.nilFunc] 1 8 := ⟨⟨Try.t147, rfl, rfl, rfl, rfl⟩, rfl⟩
instance : TSc Try.prog 148 := ⟨_, Try.underlying148, rfl⟩
instance : TIf Try.prog 148 .nilFunc [.nilFunc] 1 8 := ⟨⟨Try.t148, rfl, rfl, rfl, rfl⟩, rfl⟩
instance : TIf Try.prog 149 (.agg #[(.int .i64 0), (.int .i64 0)]) [(.int .i64 0), (.int .i64 0)] 2 16 := ⟨⟨Try.t149, rfl, rfl, rfl, rfl⟩, rfl⟩
instance : TSc Try.prog 150 := ⟨_, Try.underlying150, rfl⟩
instance : TMp Try.prog 150 3 149 := ⟨Try.underlying150⟩
instance : TIf Try.prog 150 (.map none) [(.map none)] 1 8 := ⟨⟨Try.t150, rfl, rfl, rfl, rfl⟩, rfl⟩
instance : TSc Try.prog 152 := ⟨_, Try.underlying152, rfl⟩
instance : TIn Try.prog 152 .u64 := ⟨Try.underlying152⟩
instance : TIf Try.prog 152 (.int .u64 0) [(.int .u64 0)] 1 8 := ⟨⟨Try.t152, rfl, rfl, rfl, rfl⟩, rfl⟩
instance : TSc Try.prog 153 := ⟨_, Try.underlying153, rfl⟩
instance : TIf Try.prog 153 .nilFunc [.nilFunc] 1 8 := ⟨⟨Try.t153, rfl, rfl, rfl, rfl⟩, rfl⟩
instance : TSc Try.prog 154 := ⟨_, Try.underlying154, rfl⟩
instance : TIf Try.prog 154 .nilFunc [.nilFunc] 1 8 := ⟨⟨Try.t154, rfl, rfl, rfl, rfl⟩, rfl⟩
instance : TSc Try.prog 155 := ⟨_, Try.underlying155, rfl⟩
instance : TIf Try.prog 155 .nilFunc [.nilFunc] 1 8 := ⟨⟨Try.t155, rfl, rfl, rfl, rfl⟩, rfl⟩
instance : TSc Try.prog 156 := ⟨_, Try.underlying156, rfl⟩
instance : TPt Try.prog 156 := ⟨by unfold Program.pointee; rw [Try.underlying156]⟩
instance : TIf Try.prog 156 (.pointer none) [(.pointer none)] 1 8 := ⟨⟨Try.t156, rfl, rfl, rfl, rfl⟩, rfl⟩
instance : TSc Try.prog 157 := ⟨_, Try.underlying157, rfl⟩
instance : TIf Try.prog 157 .nilFunc [.nilFunc] 1 8 := ⟨⟨Try.t157, rfl, rfl, rfl, rfl⟩, rfl⟩
instance : TSc Try.prog 158 := ⟨_, Try.underlying158, rfl⟩
instance : TIf Try.prog 158 .nilFunc [.nilFunc] 1 8 := ⟨⟨Try.t158, rfl, rfl, rfl, rfl⟩, rfl⟩
instance : TSc Try.prog 159 := ⟨_, Try.underlying159, rfl⟩
instance : TIf Try.prog 159 .nilFunc [.nilFunc] 1 8 := ⟨⟨Try.t159, rfl, rfl, rfl, rfl⟩, rfl⟩
instance : TSc Try.prog 160 := ⟨_, Try.underlying160, rfl⟩
instance : TIf Try.prog 160 .nilFunc [.nilFunc] 1 8 := ⟨⟨Try.t160, rfl, rfl, rfl, rfl⟩, rfl⟩
instance : TSc Try.prog 161 := ⟨_, Try.underlying161, rfl⟩
instance : TIf Try.prog 161 .nilFunc [.nilFunc] 1 8 := ⟨⟨Try.t161, rfl, rfl, rfl, rfl⟩, rfl⟩
instance : TSc Try.prog 162 := ⟨_, Try.underlying162, rfl⟩
instance : TPt Try.prog 162 := ⟨by unfold Program.pointee; rw [Try.underlying162]⟩
instance : TIf Try.prog 162 (.pointer none) [(.pointer none)] 1 8 := ⟨⟨Try.t162, rfl, rfl, rfl, rfl⟩, rfl⟩
instance : TSc Try.prog 164 := ⟨_, Try.underlying164, rfl⟩
instance : TIf Try.prog 164 .nilFunc [.nilFunc] 1 8 := ⟨⟨Try.t164, rfl, rfl, rfl, rfl⟩, rfl⟩
instance : TSc Try.prog 165 := ⟨_, Try.underlying165, rfl⟩
instance : TIf Try.prog 165 .nilFunc [.nilFunc] 1 8 := ⟨⟨Try.t165, rfl, rfl, rfl, rfl⟩, rfl⟩
instance : TSt Try.prog 166 [(17, 0), (17, 1), (17, 2), (9, 3)] := ⟨⟨_, Try.underlying166, rfl⟩, List.forall_mem_cons.2 ⟨⟨Try.t17, rfl, by decide⟩, List.forall_mem_cons.2 ⟨⟨Try.t17, rfl, by decide⟩, List.forall_mem_cons.2 ⟨⟨Try.t17, rfl, by decide⟩, List.forall_mem_cons.2 ⟨⟨Try.t9, rfl, by decide⟩, nofun⟩⟩⟩⟩⟩
instance : TIf Try.prog 166 (.agg #[(.pointer none), (.pointer none), (.pointer none), (.string ByteArray.empty)]) [(.pointer none), (.pointer none), (.pointer none), (.string ByteArray.empty)] 4 40 := ⟨⟨Try.t166, rfl, rfl, rfl, rfl⟩, rfl⟩
instance : TSt Try.prog 167 [(17, 0), (17, 1), (17, 2), (9, 3)] := ⟨⟨_, Try.underlying167, rfl⟩, List.forall_mem_cons.2 ⟨⟨Try.t17, rfl, by decide⟩, List.forall_mem_cons.2 ⟨⟨Try.t17, rfl, by decide⟩, List.forall_mem_cons.2 ⟨⟨Try.t17, rfl, by decide⟩, List.forall_mem_cons.2 ⟨⟨Try.t9, rfl, by decide⟩, nofun⟩⟩⟩⟩⟩
instance : TIf Try.prog 167 (.agg #[(.pointer none), (.pointer none), (.pointer none), (.string ByteArray.empty)]) [(.pointer none), (.pointer none), (.pointer none), (.string ByteArray.empty)] 4 40 := ⟨⟨Try.t167, rfl, rfl, rfl, rfl⟩, rfl⟩
instance : TIf Try.prog 168 (.agg #[]) [] 0 0 := ⟨⟨Try.t168, rfl, rfl, rfl, rfl⟩, rfl⟩
instance : TIf Try.prog 169 (.agg #[]) [] 0 0 := ⟨⟨Try.t169, rfl, rfl, rfl, rfl⟩, rfl⟩
instance : TIf Try.prog 170 (.agg #[]) [] 0 0 := ⟨⟨Try.t170, rfl, rfl, rfl, rfl⟩, rfl⟩
instance : TSc Try.prog 171 := ⟨_, Try.underlying171, rfl⟩
instance : TIf Try.prog 171 .nilFunc [.nilFunc] 1 8 := ⟨⟨Try.t171, rfl, rfl, rfl, rfl⟩, rfl⟩
instance : TSc Try.prog 172 := ⟨_, Try.underlying172, rfl⟩
instance : TIn Try.prog 172 .u8 := ⟨Try.underlying172⟩
instance : TIf Try.prog 172 (.int .u8 0) [(.int .u8 0)] 1 1 := ⟨⟨Try.t172, rfl, rfl, rfl, rfl⟩, rfl⟩
instance : TSc Try.prog 173 := ⟨_, Try.underlying173, rfl⟩
instance : TIn Try.prog 173 .u8 := ⟨Try.underlying173⟩
instance : TIf Try.prog 173 (.int .u8 0) [(.int .u8 0)] 1 1 := ⟨⟨Try.t173, rfl, rfl, rfl, rfl⟩, rfl⟩
instance : TSc Try.prog 174 := ⟨_, Try.underlying174, rfl⟩
instance : TIf Try.prog 174 .nilFunc [.nilFunc] 1 8 := ⟨⟨Try.t174, rfl, rfl, rfl, rfl⟩, rfl⟩
instance : TSc Try.prog 175 := ⟨_, Try.underlying175, rfl⟩
instance : TPt Try.prog 175 := ⟨by unfold Program.pointee; rw [Try.underlying175]⟩
instance : TIf Try.prog 175 (.pointer none) [(.pointer none)] 1 8 := ⟨⟨Try.t175, rfl, rfl, rfl, rfl⟩, rfl⟩
instance : TSc Try.prog 176 := ⟨_, Try.underlying176, rfl⟩
instance : TIn Try.prog 176 .i32 := ⟨Try.underlying176⟩
instance : TIf Try.prog 176 (.int .i32 0) [(.int .i32 0)] 1 4 := ⟨⟨Try.t176, rfl, rfl, rfl, rfl⟩, rfl⟩
instance : TSc Try.prog 177 := ⟨_, Try.underlying177, rfl⟩
instance : TIn Try.prog 177 .i32 := ⟨Try.underlying177⟩
instance : TIf Try.prog 177 (.int .i32 0) [(.int .i32 0)] 1 4 := ⟨⟨Try.t177, rfl, rfl, rfl, rfl⟩, rfl⟩
instance : TSt Try.prog 178 [(12, 0), (12, 1), (130, 2), (172, 3), (5, 4), (5, 5), (173, 6), (174, 7), (175, 8), (176, 9), (177, 10)] := ⟨⟨_, Try.underlying178, rfl⟩, List.forall_mem_cons.2 ⟨⟨Try.t12, rfl, by decide⟩, List.forall_mem_cons.2 ⟨⟨Try.t12, rfl, by decide⟩, List.forall_mem_cons.2 ⟨⟨Try.t130, rfl, by decide⟩, List.forall_mem_cons.2 ⟨⟨Try.t172, rfl, by decide⟩, List.forall_mem_cons.2 ⟨⟨Try.t5, rfl, by decide⟩, List.forall_mem_cons.2 ⟨⟨Try.t5, rfl, by decide⟩, List.forall_mem_cons.2 ⟨⟨Try.t173, rfl, by decide⟩, List.forall_mem_cons.2 ⟨⟨Try.t174, rfl, by decide⟩, List.forall_mem_cons.2 ⟨⟨Try.t175, rfl, by decide⟩, List.forall_mem_cons.2 ⟨⟨Try.t176, rfl, by decide⟩, List.forall_mem_cons.2 ⟨⟨Try.t177, rfl, by decide⟩, nofun⟩⟩⟩⟩⟩⟩⟩⟩⟩⟩⟩⟩
instance : TIf Try.prog 178 (.agg #[(.int .u64 0), (.int .u64 0), (.int .u32 0), (.int .u8 0), (.int .u8 0), (.int .u8 0), (.int .u8 0), .nilFunc, (.pointer none), (.int .i32 0), (.int .i32 0)]) [(.int .u64 0), (.int .u64 0), (.int .u32 0), (.int .u8 0), (.int .u8 0), (.int .u8 0), (.int .u8 0), .nilFunc, (.pointer none), (.int .i32 0), (.int .i32 0)] 11 48 := ⟨⟨Try.t178, rfl, rfl, rfl, rfl⟩, rfl⟩
instance : TSt Try.prog 179 [(12, 0), (12, 1), (130, 2), (172, 3), (5, 4), (5, 5), (173, 6), (174, 7), (175, 8), (176, 9), (177, 10)] := ⟨⟨_, Try.underlying179, rfl⟩, List.forall_mem_cons.2 ⟨⟨Try.t12, rfl, by decide⟩, List.forall_mem_cons.2 ⟨⟨Try.t12, rfl, by decide⟩, List.forall_mem_cons.2 ⟨⟨Try.t130, rfl, by decide⟩, List.forall_mem_cons.2 ⟨⟨Try.t172, rfl, by decide⟩, List.forall_mem_cons.2 ⟨⟨Try.t5, rfl, by decide⟩, List.forall_mem_cons.2 ⟨⟨Try.t5, rfl, by decide⟩, List.forall_mem_cons.2 ⟨⟨Try.t173, rfl, by decide⟩, List.forall_mem_cons.2 ⟨⟨Try.t174, rfl, by decide⟩, List.forall_mem_cons.2 ⟨⟨Try.t175, rfl, by decide⟩, List.forall_mem_cons.2 ⟨⟨Try.t176, rfl, by decide⟩, List.forall_mem_cons.2 ⟨⟨Try.t177, rfl, by decide⟩, nofun⟩⟩⟩⟩⟩⟩⟩⟩⟩⟩⟩⟩
instance : TIf Try.prog 179 (.agg #[(.int .u64 0), (.int .u64 0), (.int .u32 0), (.int .u8 0), (.int .u8 0), (.int .u8 0), (.int .u8 0), .nilFunc, (.pointer none), (.int .i32 0), (.int .i32 0)]) [(.int .u64 0), (.int .u64 0), (.int .u32 0), (.int .u8 0), (.int .u8 0), (.int .u8 0), (.int .u8 0), .nilFunc, (.pointer none), (.int .i32 0), (.int .i32 0)] 11 48 := ⟨⟨Try.t179, rfl, rfl, rfl, rfl⟩, rfl⟩
instance : FnB Try.prog 2 := ⟨_, Try.func2, rfl, by kernel_rfl⟩
instance : FnB Try.prog 3 := ⟨_, Try.func3, rfl, by kernel_rfl⟩
instance : FnB Try.prog 4 := ⟨_, Try.func4, rfl, by kernel_rfl⟩
instance : FnB Try.prog 5 := ⟨_, Try.func5, rfl, by kernel_rfl⟩
instance : FnB Try.prog 6 := ⟨_, Try.func6, rfl, by kernel_rfl⟩
instance : FnB Try.prog 7 := ⟨_, Try.func7, rfl, by kernel_rfl⟩
instance : FnB Try.prog 8 := ⟨_, Try.func8, rfl, by kernel_rfl⟩
instance : FnB Try.prog 9 := ⟨_, Try.func9, rfl, by kernel_rfl⟩
instance : FnB Try.prog 10 := ⟨_, Try.func10, rfl, by kernel_rfl⟩
instance : FnB Try.prog 11 := ⟨_, Try.func11, rfl, by kernel_rfl⟩
instance : FnB Try.prog 12 := ⟨_, Try.func12, rfl, by kernel_rfl⟩
instance : FnB Try.prog 13 := ⟨_, Try.func13, rfl, by kernel_rfl⟩
instance : FnB Try.prog 14 := ⟨_, Try.func14, rfl, by kernel_rfl⟩
instance : FnB Try.prog 15 := ⟨_, Try.func15, rfl, by kernel_rfl⟩
instance : FnB Try.prog 16 := ⟨_, Try.func16, rfl, by kernel_rfl⟩
instance : FnB Try.prog 17 := ⟨_, Try.func17, rfl, by kernel_rfl⟩
instance : FnB Try.prog 18 := ⟨_, Try.func18, rfl, by kernel_rfl⟩
instance : FnB Try.prog 19 := ⟨_, Try.func19, rfl, by kernel_rfl⟩
instance : FnB Try.prog 20 := ⟨_, Try.func20, rfl, by kernel_rfl⟩
instance : FnB Try.prog 21 := ⟨_, Try.func21, rfl, by kernel_rfl⟩
instance : FnB Try.prog 22 := ⟨_, Try.func22, rfl, by kernel_rfl⟩
instance : FnB Try.prog 23 := ⟨_, Try.func23, rfl, by kernel_rfl⟩
instance : FnB Try.prog 24 := ⟨_, Try.func24, rfl, by kernel_rfl⟩
instance : FnB Try.prog 25 := ⟨_, Try.func25, rfl, by kernel_rfl⟩
instance : FnB Try.prog 26 := ⟨_, Try.func26, rfl, by kernel_rfl⟩
instance : FnB Try.prog 27 := ⟨_, Try.func27, rfl, by kernel_rfl⟩
instance : FnB Try.prog 28 := ⟨_, Try.func28, rfl, by kernel_rfl⟩
instance : FnB Try.prog 29 := ⟨_, Try.func29, rfl, by kernel_rfl⟩
instance : FnB Try.prog 30 := ⟨_, Try.func30, rfl, by kernel_rfl⟩
instance : FnB Try.prog 31 := ⟨_, Try.func31, rfl, by kernel_rfl⟩
instance : FnB Try.prog 32 := ⟨_, Try.func32, rfl, by kernel_rfl⟩
instance : FnB Try.prog 33 := ⟨_, Try.func33, rfl, by kernel_rfl⟩
instance : FnB Try.prog 34 := ⟨_, Try.func34, rfl, by kernel_rfl⟩
instance : FnB Try.prog 35 := ⟨_, Try.func35, rfl, by kernel_rfl⟩
instance : FnB Try.prog 36 := ⟨_, Try.func36, rfl, by kernel_rfl⟩
instance : FnB Try.prog 37 := ⟨_, Try.func37, rfl, by kernel_rfl⟩
instance : FnB Try.prog 38 := ⟨_, Try.func38, rfl, by kernel_rfl⟩
instance : FnB Try.prog 39 := ⟨_, Try.func39, rfl, by kernel_rfl⟩
instance : FnB Try.prog 40 := ⟨_, Try.func40, rfl, by kernel_rfl⟩
instance : FnB Try.prog 41 := ⟨_, Try.func41, rfl, by kernel_rfl⟩
instance : FnB Try.prog 42 := ⟨_, Try.func42, rfl, by kernel_rfl⟩
instance : FnB Try.prog 43 := ⟨_, Try.func43, rfl, by kernel_rfl⟩
instance : FnB Try.prog 44 := ⟨_, Try.func44, rfl, by kernel_rfl⟩
instance : FnB Try.prog 45 := ⟨_, Try.func45, rfl, by kernel_rfl⟩
instance : FnB Try.prog 46 := ⟨_, Try.func46, rfl, by kernel_rfl⟩
instance : FnB Try.prog 47 := ⟨_, Try.func47, rfl, by kernel_rfl⟩
instance : FnB Try.prog 48 := ⟨_, Try.func48, rfl, by kernel_rfl⟩
instance : FnB Try.prog 49 := ⟨_, Try.func49, rfl, by kernel_rfl⟩
instance : FnB Try.prog 50 := ⟨_, Try.func50, rfl, by kernel_rfl⟩
instance : FnB Try.prog 51 := ⟨_, Try.func51, rfl, by kernel_rfl⟩
instance : FnB Try.prog 52 := ⟨_, Try.func52, rfl, by kernel_rfl⟩
instance : FnB Try.prog 53 := ⟨_, Try.func53, rfl, by kernel_rfl⟩
instance : FnB Try.prog 54 := ⟨_, Try.func54, rfl, by kernel_rfl⟩
instance : FnB Try.prog 55 := ⟨_, Try.func55, rfl, by kernel_rfl⟩
instance : FnB Try.prog 56 := ⟨_, Try.func56, rfl, by kernel_rfl⟩
instance : FnB Try.prog 57 := ⟨_, Try.func57, rfl, by kernel_rfl⟩
instance : FnB Try.prog 58 := ⟨_, Try.func58, rfl, by kernel_rfl⟩
instance : FnB Try.prog 59 := ⟨_, Try.func59, rfl, by kernel_rfl⟩
instance : FnB Try.prog 60 := ⟨_, Try.func60, rfl, by kernel_rfl⟩
instance : FnB Try.prog 61 := ⟨_, Try.func61, rfl, by kernel_rfl⟩
instance : FnB Try.prog 62 := ⟨_, Try.func62, rfl, by kernel_rfl⟩
instance : FnB Try.prog 63 := ⟨_, Try.func63, rfl, by kernel_rfl⟩
instance : FnB Try.prog 64 := ⟨_, Try.func64, rfl, by kernel_rfl⟩
instance : FnB Try.prog 65 := ⟨_, Try.func65, rfl, by kernel_rfl⟩
instance : FnB Try.prog 66 := ⟨_, Try.func66, rfl, by kernel_rfl⟩
instance : FnB Try.prog 67 := ⟨_, Try.func67, rfl, by kernel_rfl⟩
instance : FnB Try.prog 68 := ⟨_, Try.func68, rfl, by kernel_rfl⟩
instance : FnB Try.prog 69 := ⟨_, Try.func69, rfl, by kernel_rfl⟩
instance : FnB Try.prog 70 := ⟨_, Try.func70, rfl, by kernel_rfl⟩
instance : FnB Try.prog 71 := ⟨_, Try.func71, rfl, by kernel_rfl⟩
instance : FnB Try.prog 72 := ⟨_, Try.func72, rfl, by kernel_rfl⟩
instance : FnB Try.prog 73 := ⟨_, Try.func73, rfl, by kernel_rfl⟩
instance : FnB Try.prog 74 := ⟨_, Try.func74, rfl, by kernel_rfl⟩
instance : FnB Try.prog 75 := ⟨_, Try.func75, rfl, by kernel_rfl⟩
instance : FnB Try.prog 76 := ⟨_, Try.func76, rfl, by kernel_rfl⟩
instance : FnB Try.prog 77 := ⟨_, Try.func77, rfl, by kernel_rfl⟩
instance : FnB Try.prog 78 := ⟨_, Try.func78, rfl, by kernel_rfl⟩
instance : FnB Try.prog 79 := ⟨_, Try.func79, rfl, by kernel_rfl⟩
instance : FnB Try.prog 80 := ⟨_, Try.func80, rfl, by kernel_rfl⟩
instance : FnB Try.prog 81 := ⟨_, Try.func81, rfl, by kernel_rfl⟩
instance : FnB Try.prog 82 := ⟨_, Try.func82, rfl, by kernel_rfl⟩
instance : FnB Try.prog 83 := ⟨_, Try.func83, rfl, by kernel_rfl⟩
instance : FnB Try.prog 84 := ⟨_, Try.func84, rfl, by kernel_rfl⟩
instance : FnB Try.prog 85 := ⟨_, Try.func85, rfl, by kernel_rfl⟩
instance : FnB Try.prog 86 := ⟨_, Try.func86, rfl, by kernel_rfl⟩
instance : FnB Try.prog 87 := ⟨_, Try.func87, rfl, by kernel_rfl⟩
theorem mixed : Try.prog.follows .mixedOrders = true := by kernel_rfl
end Go.Proofs.Ytjfanjcoppeeaaa
namespace Go.Proofs.Ytjfanjcoppeeaaa
open Go Go.Fw
set_option linter.unusedVariables false
structure Vec (α : Type) where
  o : Option Addr
  c : Nat
  l : List α
structure Atm where
  k : Int
  n : Int
structure Stp where
  k : Int
  n : Int
  ns : Vec Int
  a : Vec Atm
structure Ins where
  x : Int
  r : Stp
structure Edg where
  b : Int
  a : Vec Atm
structure En where
  k : Int
  a : Vec Atm
  ns : Vec Int
  to : Vec Edg
structure Blc where
  ps : Vec Int
  is : Vec Ins
  e : En
structure Gr where
  caps : Int
  bs : Vec Blc
structure Grs where
  fs : Vec Gr
  ls : Vec ByteArray
  ts : Vec ByteArray
  xs : Vec ByteArray
  ss : Vec ByteArray
structure Rg where
  v : Int
  r : Int
def nilV {α : Type} : Vec α := ⟨none, 0, []⟩
def ins0 : Ins := ⟨0, ⟨0, 0, nilV, nilV⟩⟩
def blc0 : Blc := ⟨nilV, nilV, ⟨0, nilV, nilV, nilV⟩⟩
def encX (s : ByteArray) : List Value := [.string s]
def encAt (a : Atm) : List Value := [.int .i64 a.k, .int .i64 a.n]
def encSt (r : Stp) : List Value := [.int .i64 r.k, .int .i64 r.n, .slice r.ns.o r.ns.l.length r.ns.c, .slice r.a.o r.a.l.length r.a.c]
def encIn (i : Ins) : List Value := [.int .i64 i.x, .int .i64 i.r.k, .int .i64 i.r.n, .slice i.r.ns.o i.r.ns.l.length i.r.ns.c, .slice i.r.a.o i.r.a.l.length i.r.a.c]
def encEd (e : Edg) : List Value := [.int .i64 e.b, .slice e.a.o e.a.l.length e.a.c]
def encEn (e : En) : List Value := [.int .i64 e.k, .slice e.a.o e.a.l.length e.a.c, .slice e.ns.o e.ns.l.length e.ns.c, .slice e.to.o e.to.l.length e.to.c]
def encBl (b : Blc) : List Value := [.slice b.ps.o b.ps.l.length b.ps.c, .slice b.is.o b.is.l.length b.is.c, .int .i64 b.e.k, .slice b.e.a.o b.e.a.l.length b.e.a.c, .slice b.e.ns.o b.e.ns.l.length b.e.ns.c, .slice b.e.to.o b.e.to.l.length b.e.to.c]
def encG (g : Gr) : List Value := [.int .i64 g.caps, .slice g.bs.o g.bs.l.length g.bs.c]
def encGs (g : Grs) : List Value := [.slice g.fs.o g.fs.l.length g.fs.c, .slice g.ls.o g.ls.l.length g.ls.c, .slice g.ts.o g.ts.l.length g.ts.c, .slice g.xs.o g.xs.l.length g.xs.c, .slice g.ss.o g.ss.l.length g.ss.c]
def encR (r : Rg) : List Value := [.int .i64 r.v, .int .i64 r.r]
theorem encX_len (s : ByteArray) : (encX s).length = 1 := rfl
theorem encAt_len (a : Atm) : (encAt a).length = 2 := rfl
theorem encIn_len (i : Ins) : (encIn i).length = 5 := rfl
theorem encEd_len (e : Edg) : (encEd e).length = 2 := rfl
theorem encBl_len (b : Blc) : (encBl b).length = 6 := rfl
theorem encG_len (g : Gr) : (encG g).length = 2 := rfl
theorem encR_len (r : Rg) : (encR r).length = 2 := rfl
/-- it can be read -/
def RdV {α : Type} (w : World) (enc : α → List Value) (v : Vec α) : Prop := Rd w v.o (flat enc v.l) ∧ v.l.length ≤ v.c ∧ v.c ≤ maxLen
theorem RdV.keep {α : Type} {w w' : World} {enc : α → List Value} {v : Vec α} (h : RdV w enc v) (hk : Kp w noM w') : RdV w' enc v := ⟨((HS.init w noM).keep hk).rd h.1 id, h.2⟩
theorem RdV.le {α : Type} {w : World} {enc : α → List Value} {v : Vec α} (h : RdV w enc v) : v.l.length ≤ 9223372036854775807 := by
  have h1 := h.2
  unfold maxLen at h1
  omega
def RdIn (w : World) (i : Ins) : Prop := RdV w Fw.encI i.r.ns ∧ RdV w encAt i.r.a
def RdEn (w : World) (e : En) : Prop := RdV w encAt e.a ∧ RdV w Fw.encI e.ns ∧ RdV w encEd e.to ∧ ∀ x ∈ e.to.l, RdV w encAt x.a
def RdBl (w : World) (b : Blc) : Prop := RdV w Fw.encI b.ps ∧ RdV w encIn b.is ∧ (∀ i ∈ b.is.l, RdIn w i) ∧ RdEn w b.e
def RdG (w : World) (g : Gr) : Prop := RdV w encBl g.bs ∧ ∀ b ∈ g.bs.l, RdBl w b
def RdGs (w : World) (g : Grs) : Prop := RdV w encG g.fs ∧ (∀ x ∈ g.fs.l, RdG w x) ∧ RdV w encX g.ls ∧ RdV w encX g.ts ∧ RdV w encX g.xs ∧ RdV w encX g.ss
theorem RdIn.keep {w w' : World} {i : Ins} (h : RdIn w i) (hk : Kp w noM w') : RdIn w' i := ⟨h.1.keep hk, h.2.keep hk⟩
theorem RdEn.keep {w w' : World} {e : En} (h : RdEn w e) (hk : Kp w noM w') : RdEn w' e := ⟨h.1.keep hk, h.2.1.keep hk, h.2.2.1.keep hk, fun x hx => (h.2.2.2 x hx).keep hk⟩
theorem RdBl.keep {w w' : World} {b : Blc} (h : RdBl w b) (hk : Kp w noM w') : RdBl w' b := ⟨h.1.keep hk, h.2.1.keep hk, fun i hi => (h.2.2.1 i hi).keep hk, h.2.2.2.keep hk⟩
theorem RdG.keep {w w' : World} {g : Gr} (h : RdG w g) (hk : Kp w noM w') : RdG w' g := ⟨h.1.keep hk, fun b hb => (h.2 b hb).keep hk⟩
theorem RdGs.keep {w w' : World} {g : Grs} (h : RdGs w g) (hk : Kp w noM w') : RdGs w' g := ⟨h.1.keep hk, fun x hx => (h.2.1 x hx).keep hk, h.2.2.1.keep hk, h.2.2.2.1.keep hk, h.2.2.2.2.1.keep hk, h.2.2.2.2.2.keep hk⟩
theorem in_of_ret {P : Program} {k n : Nat} {args args' : Array Value} {w : World} {R : World → Prop} (ha : args' = args) (h : Ret P k args w (fun _ w' => R w')) : CallsIn Fence.wide n P k args' w (fun e w' => (∃ v, e = .returned v) ∧ R w') := by
  subst ha
  exact callsIn_wide.2 (Calls.mono h fun e W' ⟨v, he, h⟩ => ⟨⟨v, he⟩, h⟩)
set_option maxRecDepth 10000 attribute [local irreducible] Code.wp wpList Calls Ex Op1 sat bat blk cb own Go.Fw.mp Go.Fw.mpO Go.Fw.mpI Go.Fw.mpE Go.Fw.itr HS Rd Ret wkD Hp Cl Cls Exit.then Exit.inBlock Exit.noGoto bodyPost Go.Fw.flat wk2 Go.Fw.all Go.Fw.owns wpOp

theorem backward_spec (w0 : World) (v : Vec Ins) : Ret Try.prog 38 #[.slice v.o v.l.length v.c] w0 (fun r w => ∃ b, r = .func (.func 64) #[] #[.pointer (some (bat b 0))] ∧ HS w0 noM [cb b 45 [.slice v.o v.l.length v.c]] w) := by
  have hH : HS w0 noM [] w0 := HS.init w0 noM
  (refine enter (N := 4) Try.func38 rfl Try.ntmps38 rfl ?_; intro a hA; dsimp only [sl0, Nat.reduceAdd] at hA)
  repeat' (first | (first | (refine GT ?_ ?_ <;> intro hg <;> clear hA a <;> intro a hA <;> (first | exact FA | replace hg := of_decide_eq_true hg | replace hg := of_decide_eq_false hg | skip)) | (refine QT ?_; clear hA a; intro a hA) | (first | (refine BT ?_; clear hA hH; rintro _ w ⟨bN, rfl, hH⟩ a hA) | (refine LT ?_; clear hA hH; rintro _ w ⟨oN, rfl, hH⟩ a hA) | (refine AT ?_; clear hA; rintro _ w ⟨oN, cN, rfl, hH2⟩ a hA; clear hH; have hH := (hH2 _ (by (repeat constructor))).tail; clear hH2) | (refine S0T ?_; clear hH; rintro _ w hH) )) | ((first | refine CT ?_ | (refine DT ?_ ?_ <;> intro hc <;> try (exfalso; omega))) <;> repeat' refine CT ?_) | (first | (refine DSK ?_; clear hA a; intro a hA) | (first | (refine DLT ?_; clear hA hH; rintro _ w ⟨oN, rfl, hH⟩; refine ⟨STT, ?_⟩; intro a hA) | (refine DAT ?_; clear hA; rintro _ w ⟨oN, cN, rfl, hH2⟩; clear hH; have hH := (hH2 _ (by (repeat constructor))).tail; clear hH2; refine ⟨STT, ?_⟩; intro a hA))) )
  exact rt1 (.inl rfl) rfl hA rfl ⟨_, rfl, hH⟩
set_option maxHeartbeats 2000000 in
theorem back_spec (w0 : World) (v : Vec Ins) (b : Nat) (its : Nat → List It) (hb : ∀ i, cb b 45 [.slice v.o v.l.length v.c] ∈ its i) (hR : RdV w0 encIn v) (l : Nat) (X Y : It) (W : World)
    (hY : ∀ i W1, i < v.l.length → HS w0 noM (X :: Y :: its (i + 1)) W1 → YieldAt Fence.wide 2 Try.prog l #[.int .i64 i, .agg (encIn (v.l.getD i ins0)).toArray] W1 (fun e W' => e = .returned (.bool true) ∧ HS w0 noM (X :: Y :: its i) W'))
    (hH : HS w0 noM (X :: Y :: its v.l.length) W) :
    CallsIn Fence.wide 3 Try.prog 64 (#[.func (.yield l) #[] #[]] ++ #[.pointer (some (bat b 0))]) W (fun e W' => (∃ v, e = .returned v) ∧ HS w0 noM (X :: Y :: its 0) W') := by
  refine in_of_ret (args := #[.func (.yield l) #[] #[], .pointer (some (bat b 0))]) (by simp) ?_
  have hle := hR.le
  have hsp : Sp v.o v.l.length := hR.1.sp (sz := 5) (flat_length encIn_len _) (by omega)
  have hbm : ∀ i, cb b 45 [.slice v.o v.l.length v.c] ∈ X :: Y :: its i := fun i => .tail _ (.tail _ (hb i))
  (refine enter (N := 19) Try.func64 rfl Try.ntmps64 rfl ?_; intro a hA; dsimp only [sl0, Nat.reduceAdd] at hA)
  repeat' (first | (first | (refine GT ?_ ?_ <;> intro hg <;> clear hA a <;> intro a hA <;> (first | exact FA | replace hg := of_decide_eq_true hg | replace hg := of_decide_eq_false hg | skip)) | ((first | apply st_ex hA hH rfl rfl (by decide) | apply dr_ex hA rfl rfl rfl (by decide) | apply dr_exp hA rfl rfl rfl (by decide) | apply dr_ex3 hA hH rfl rfl rfl (by decide)); (first | (apply ex_load; rfl; apply cl_cb; exact hbm _; rfl)); clear hA a; intro a hA) | (refine QT ?_; clear hA a; intro a hA) | (first | (refine BT ?_; clear hA hH; rintro _ w ⟨bN, rfl, hH⟩ a hA) | (refine LT ?_; clear hA hH; rintro _ w ⟨oN, rfl, hH⟩ a hA) | (refine AT ?_; clear hA; rintro _ w ⟨oN, cN, rfl, hH2⟩ a hA; clear hH; have hH := (hH2 _ (by (repeat constructor))).tail; clear hH2) | (refine S0T ?_; clear hH; rintro _ w hH) )) | ((first | refine CT ?_ | (refine DT ?_ ?_ <;> intro hc <;> try (exfalso; omega))) <;> repeat' refine CT ?_) | (first | (refine DSK ?_; clear hA a; intro a hA) | (first | (refine DLT ?_; clear hA hH; rintro _ w ⟨oN, rfl, hH⟩; refine ⟨STT, ?_⟩; intro a hA) | (refine DAT ?_; clear hA; rintro _ w ⟨oN, cN, rfl, hH2⟩; clear hH; have hH := (hH2 _ (by (repeat constructor))).tail; clear hH2; refine ⟨STT, ?_⟩; intro a hA))) )
  refine wp_lpk (S := Nat) (fun i a w => i ≤ v.l.length ∧ HS w0 noM (X :: Y :: its i) w ∧ Sl 19 [(0, .func (.yield l) #[] #[]), (1, .pointer (some (bat b 0))), (3, .int .i64 ((i : Int) - 1))] a) (fun i => i)
    (fun a w => HS w0 noM (X :: Y :: its 0) w ∧ Sl 19 [] a) v.l.length ⟨Nat.le_refl _, hH, (hA.sub (by (repeat (first | exact trivial | refine ⟨rfl, ?_⟩))))⟩ ?_ ?_
  · clear hA hH
    rintro i a w ⟨hi, hH, hA⟩
    rcases i with _ | i
    · repeat' (first | (first | (refine GT ?_ ?_ <;> intro hg <;> clear hA a <;> intro a hA <;> (first | exact FA | replace hg := of_decide_eq_true hg | replace hg := of_decide_eq_false hg | skip)) | (refine QT ?_; clear hA a; intro a hA) | (first | (refine BT ?_; clear hA hH; rintro _ w ⟨bN, rfl, hH⟩ a hA) | (refine LT ?_; clear hA hH; rintro _ w ⟨oN, rfl, hH⟩ a hA) | (refine AT ?_; clear hA; rintro _ w ⟨oN, cN, rfl, hH2⟩ a hA; clear hH; have hH := (hH2 _ (by (repeat constructor))).tail; clear hH2) | (refine S0T ?_; clear hH; rintro _ w hH) )) | ((first | refine CT ?_ | (refine DT ?_ ?_ <;> intro hc <;> try (exfalso; omega))) <;> repeat' refine CT ?_) | (first | (refine DSK ?_; clear hA a; intro a hA) | (first | (refine DLT ?_; clear hA hH; rintro _ w ⟨oN, rfl, hH⟩; refine ⟨STT, ?_⟩; intro a hA) | (refine DAT ?_; clear hA; rintro _ w ⟨oN, cN, rfl, hH2⟩; clear hH; have hH := (hH2 _ (by (repeat constructor))).tail; clear hH2; refine ⟨STT, ?_⟩; intro a hA))) )
      exact ⟨hH, (hA.sub (by (repeat (first | exact trivial | refine ⟨rfl, ?_⟩))))⟩
    · have hx : v.l[i]? = some (v.l.getD i ins0) := by rw [List.getD_eq_getElem?_getD, List.getElem?_eq_getElem (by omega)]; rfl
      have hvs := flat_all encIn_len hx
      refine st_mid (fun a w => HS w0 noM (X :: Y :: its (i + 1)) w ∧ Sl 19 [(0, .func (.yield l) #[] #[]), (1, .pointer (some (bat b 0))), (3, .int .i64 (i : Int))] a) ?_ ?_
      · have e : ((i + 1 : Nat) : Int) - 1 = i := by omega
        rw [e] at hA
        repeat' (first | (first | (refine GT ?_ ?_ <;> intro hg <;> clear hA a <;> intro a hA <;> (first | exact FA | replace hg := of_decide_eq_true hg | replace hg := of_decide_eq_false hg | skip)) | (refine QT ?_; clear hA a; intro a hA) | (first | (refine BT ?_; clear hA hH; rintro _ w ⟨bN, rfl, hH⟩ a hA) | (refine LT ?_; clear hA hH; rintro _ w ⟨oN, rfl, hH⟩ a hA) | (refine AT ?_; clear hA; rintro _ w ⟨oN, cN, rfl, hH2⟩ a hA; clear hH; have hH := (hH2 _ (by (repeat constructor))).tail; clear hH2) | (refine S0T ?_; clear hH; rintro _ w hH) )) | ((first | refine CT ?_ | (refine DT ?_ ?_ <;> intro hc <;> try (exfalso; omega))) <;> repeat' refine CT ?_) | (first | (refine DSK ?_; clear hA a; intro a hA) | (first | (refine DLT ?_; clear hA hH; rintro _ w ⟨oN, rfl, hH⟩; refine ⟨STT, ?_⟩; intro a hA) | (refine DAT ?_; clear hA; rintro _ w ⟨oN, cN, rfl, hH2⟩; clear hH; have hH := (hH2 _ (by (repeat constructor))).tail; clear hH2; refine ⟨STT, ?_⟩; intro a hA))) )
        exact ⟨hH, (hA.sub (by (repeat (first | exact trivial | refine ⟨rfl, ?_⟩))))⟩
      clear hA hH
      rintro a w ⟨hH, hA⟩
      apply wp_seq
      apply wp_block
      apply wp_seq
      apply in_region
      (apply in_ex hA hH rfl rfl (by decide); exact EXT; clear hA a; intro a hA)
      (apply in_ex hA hH rfl rfl (by decide); exact EXT; clear hA a; intro a hA)
      (apply in_ex hA hH rfl rfl (by decide); (apply ex_load; rfl; apply cl_cb; exact hbm _; rfl); clear hA a; intro a hA)
      (apply in_ex hA hH rfl rfl (by decide); exact EXT; clear hA a; intro a hA)
      (apply in_ex hA hH rfl rfl (by decide); (apply ex_indexAddr_nat; rfl; rfl; omega; exact hsp); clear hA a; intro a hA)
      (apply in_ex hA hH rfl rfl (by decide); (apply ex_load_st (vs := encIn (v.l.getD i ins0)); rfl; rfl; exact cls_rd hR.1 id hvs); clear hA a; intro a hA)
      (apply in_yield hA (by decide) rfl rfl; exact YieldAt.mono (hY i w hi hH) (fun e W' ⟨he, h⟩ => (⟨_, he, ⟨rfl, h⟩⟩ : ∃ v, e = .returned v ∧ (v = .bool true ∧ HS w0 noM (X :: Y :: its i) W'))); clear hA hH; rintro _ w ⟨rfl, hH⟩ a hA)
      (apply in_ex hA hH rfl rfl (by decide); exact EXT; clear hA a; intro a hA)
      apply in_nil
      repeat' (first | (first | (refine GT ?_ ?_ <;> intro hg <;> clear hA a <;> intro a hA <;> (first | exact FA | replace hg := of_decide_eq_true hg | replace hg := of_decide_eq_false hg | skip)) | (refine QT ?_; clear hA a; intro a hA) | (first | (refine BT ?_; clear hA hH; rintro _ w ⟨bN, rfl, hH⟩ a hA) | (refine LT ?_; clear hA hH; rintro _ w ⟨oN, rfl, hH⟩ a hA) | (refine AT ?_; clear hA; rintro _ w ⟨oN, cN, rfl, hH2⟩ a hA; clear hH; have hH := (hH2 _ (by (repeat constructor))).tail; clear hH2) | (refine S0T ?_; clear hH; rintro _ w hH) )) | ((first | refine CT ?_ | (refine DT ?_ ?_ <;> intro hc <;> try (exfalso; omega))) <;> repeat' refine CT ?_) | (first | (refine DSK ?_; clear hA a; intro a hA) | (first | (refine DLT ?_; clear hA hH; rintro _ w ⟨oN, rfl, hH⟩; refine ⟨STT, ?_⟩; intro a hA) | (refine DAT ?_; clear hA; rintro _ w ⟨oN, cN, rfl, hH2⟩; clear hH; have hH := (hH2 _ (by (repeat constructor))).tail; clear hH2; refine ⟨STT, ?_⟩; intro a hA))) )
      exact ⟨i, ⟨by omega, hH, (hA.sub (by (repeat (first | exact trivial | refine ⟨rfl, ?_⟩))))⟩, by omega⟩
  clear hA hH
  rintro a w ⟨hH, hA⟩
  exact rt0 (.inr rfl) rfl hA hH
end Go.Proofs.Ytjfanjcoppeeaaa
namespace Go.Fw
open Go
set_option linter.unusedVariables false
def encK (ks : List Int) : List (Int × Value) := ks.map fun k => (k, .bool true)
def sk (b : Nat) (ks : List Int) : It := mp b (encK ks)
def sadd (ks : List Int) (k : Int) : List Int := if k ∈ ks then ks else ks ++ [k]
def sdel (ks : List Int) (k : Int) : List Int := ks.filter fun x => !(x == k)
theorem mem_sadd {ks : List Int} {k x : Int} : x ∈ sadd ks k ↔ x ∈ ks ∨ x = k := by
  unfold sadd
  split
  · exact ⟨.inl, fun h => h.elim id fun e => e ▸ (by assumption)⟩
  · rw [List.mem_append, List.mem_singleton]
theorem mem_sdel {ks : List Int} {k x : Int} : x ∈ sdel ks k ↔ x ∈ ks ∧ x ≠ k := by
  unfold sdel
  rw [List.mem_filter]
  simp
theorem mv_encK (ks : List Int) (k : Int) : mv (encK ks) k = if k ∈ ks then some (.bool true) else none := by
  unfold mv encK
  induction ks with
  | nil => rfl
  | cons x ks ih =>
    rw [List.map_cons, List.find?_cons]
    by_cases h : x = k
    · subst h; simp
    · have hb : (x == k) = false := by simpa using h
      simp only [hb]
      rw [ih]
      have : k ≠ x := fun e => h e.symm
      simp [this]
theorem mset_encK (ks : List Int) (k : Int) : mset (encK ks) k (.bool true) = encK (sadd ks k) := by
  unfold mset sadd
  rw [mv_encK]
  by_cases h : k ∈ ks
  · rw [if_pos h, if_pos h]
    show List.map _ (encK ks) = _
    unfold encK
    rw [List.map_map]
    refine List.map_congr_left fun x hx => ?_
    simp only [Function.comp_def]
    split
    · rename_i e
      have : x = k := by simpa using e
      rw [this]
    · rfl
  · rw [if_neg h, if_neg h]
    simp [encK]
theorem mdel_encK (ks : List Int) (k : Int) : mdel (encK ks) k = encK (sdel ks k) := by
  unfold mdel encK sdel
  rw [List.filter_map]
  rfl
structure ElK (el : List (Int × Nat)) (clock : Nat) : Prop where
  keys : (el.map (·.1)).Nodup
  borns : (el.map (·.2)).Nodup
  lt : ∀ e ∈ el, e.2 < clock
def mkK (e : Int × Nat) : Int × Value × Nat := (e.1, .bool true, e.2)
def mpK (b : Nat) (el : List (Int × Nat)) (clock : Nat) : It := mpO b (el.map mkK) clock
theorem ElK.es {el : List (Int × Nat)} {clock : Nat} (h : ElK el clock) : EsOk (el.map mkK) clock :=
  ⟨by simpa [mkK, Function.comp_def] using h.keys, by simpa [mkK, Function.comp_def] using h.borns, fun e he => by
    obtain ⟨e', he', rfl⟩ := List.mem_map.1 he
    exact h.lt e' he'⟩
theorem es_encK : ∀ (ks : List Int) (es : List (Int × Value × Nat)), es.map (fun e => (e.1, e.2.1)) = encK ks → ∃ el : List (Int × Nat), el.map mkK = es ∧ el.map (·.1) = ks
  | [], es, h => by
    obtain rfl : es = [] := by simpa [encK] using h
    exact ⟨[], rfl, rfl⟩
  | k :: ks, [], h => by simp [encK] at h
  | k :: ks, e :: es, h => by
    simp only [encK, List.map_cons, List.cons.injEq, Prod.mk.injEq] at h
    obtain ⟨el, h1, h2⟩ := es_encK ks es h.2
    refine ⟨(k, e.2.2) :: el, ?_, by simp [h2]⟩
    simp only [List.map_cons, h1, mkK]
    rw [← h.1.1, ← h.1.2]
theorem HS.openK {w0 w : World} {M : Nat → Prop} {H : List It} {b : Nat} {ks : List Int} (h : HS w0 M H w) (hm : sk b ks ∈ H) :
    ∃ el clock, el.map (·.1) = ks ∧ ElK el clock ∧ ∀ H', Rp H (sk b ks) (mpK b el clock) H' → HS w0 M H' w := by
  obtain ⟨F, es, clock, h1, h2, h3⟩ := h.sat hm
  obtain ⟨el, rfl, h5⟩ := es_encK ks es h1
  refine ⟨el, clock, h5, ⟨by simpa [mkK, Function.comp_def] using h2.keys, by simpa [mkK, Function.comp_def] using h2.borns, fun e he => h2.lt (mkK e) (List.mem_map.2 ⟨e, he, rfl⟩)⟩, fun H' hr => ?_⟩
  refine h.turn hr fun F' hF' => ⟨Kp.refl _ _, F', ?_, fun b hb => .inr hb⟩
  obtain ⟨es', clock', g1, g2, g3⟩ := hF'
  exact ⟨g3.1, h3.2⟩
theorem HS.shutK {w0 w : World} {M : Nat → Prop} {H H' : List It} {b clock : Nat} {el : List (Int × Nat)} (h : HS w0 M H w) (hok : ElK el clock) (hr : Rp H (mpK b el clock) (sk b (el.map (·.1))) H') : HS w0 M H' w :=
  h.conv hr fun F hF => ⟨el.map mkK, clock, by simp [mkK, encK, Function.comp_def], hok.es, hF⟩
/-- a part is taken to the front; a part is let go -/
theorem HS.up {w0 w : World} {M : Nat → Prop} {H : List It} {x : It} (h : HS w0 M H w) (i : Nat) (hi : H[i]? = some x) : HS w0 M (x :: H.eraseIdx i) w := h.perm (perm_pick0 i hi)
theorem HS.rm {w0 w : World} {M : Nat → Prop} : ∀ {H : List It} (i : Nat), HS w0 M H w → HS w0 M (H.eraseIdx i) w
  | [], i, h => by simpa using h
  | x :: H, 0, h => h.tail
  | x :: H, i + 1, h => by
    have h1 : HS w0 M (H ++ [x]) w := h.perm (List.perm_append_singleton x H).symm
    cases hg : H[i]? with
    | none =>
      have : H.eraseIdx i = H := List.eraseIdx_of_length_le (List.getElem?_eq_none_iff.1 hg)
      rw [List.eraseIdx_cons_succ, this]
      exact h
    | some y =>
      have h2 := h.up (i + 1) (x := y) (by simpa using hg)
      exact h2.tail
theorem HS.sk_nodup {w0 w : World} {M : Nat → Prop} {H : List It} {b : Nat} {ks : List Int} (h : HS w0 M H w) (hm : sk b ks ∈ H) : ks.Nodup := by
  obtain ⟨el, clock, rfl, hok, _⟩ := h.openK hm
  exact hok.keys
section
variable {P : Program} {N : Nat} {l : List (Nat × Value)} {a : Act} {d : Option Tmp} {T : TypeId} {pos : String} {af : Array Edge} {g : Option (Nat × Bool)}
theorem op_makeMapK {t : Nat} {w0 w : World} {M : Nat → Prop} {H : List It} (hH : HS w0 M H w) :
    Op1 P N l ⟨d, .makeMap t none, T, pos, af, g⟩ w (fun v w' => ∃ b, v = .map (some b) ∧ HS w0 M (sk b [] :: H) w') := op_makeMap hH
theorem op_addK {t kt e b : Nat} {kk : IntKind} {x y z : Operand} {ks : List Int} {k : Int} {w0 w : World} {M : Nat → Prop} {H H' : List It} [ht : TMp P t kt e] [hk : TIn P kt kk]
    (hx : ev l x = some (.map (some b))) (hy : ev l y = some (.int .i64 k)) (hz : ev l z = some (.bool true)) (hH : HS w0 M H w) (hr : Rp H (sk b ks) (sk b (sadd ks k)) H') :
    Op1 P N l ⟨d, .mapUpdate t x y z, T, pos, af, g⟩ w (fun _ w' => HS w0 M H' w') := by
  unfold sk at hr
  rw [← mset_encK] at hr
  exact op_mapUpdate hx hy hz hH hr
theorem op_delK {t kt e b : Nat} {kk : IntKind} {x y : Operand} {u : TypeId} {ks : List Int} {k : Int} {w0 w : World} {M : Nat → Prop} {H H' : List It} [ht : TMp P t kt e] [hk : TIn P kt kk]
    (hx : ev l x = some (.map (some b))) (hy : ev l y = some (.int .i64 k)) (hH : HS w0 M H w) (hr : Rp H (sk b ks) (sk b (sdel ks k)) H') :
    Op1 P N l ⟨d, .call ⟨.builtin .delete, #[x, y], #[t, u]⟩, T, pos, af, g⟩ w (fun v w' => v = .tuple #[] ∧ HS w0 M H' w') := by
  unfold sk at hr
  rw [← mdel_encK] at hr
  exact op_delete hx hy hH hr
theorem ex_hasK {t kt e sz by_ b : Nat} {kk : IntKind} {zs : List Value} {x y : Operand} {ks : List Int} {k : Int} {w0 : World} {M : Nat → Prop} {H : List It} [ht : TMp P t kt e] [hk : TIn P kt kk] [hi : TIf P e (.bool false) zs sz by_]
    (hx : ev l x = some (.map (some b))) (hy : ev l y = some (.int .i64 k)) (hm : sk b ks ∈ H) : Ex P N l (HS w0 M H) ⟨d, .lookup t x y false, T, pos, af, g⟩ (.bool (decide (k ∈ ks))) := by
  have h := ex_lookup (P := P) (N := N) (l := l) (d := d) (T := T) (pos := pos) (af := af) (g := g) (t := t) (w0 := w0) (M := M) (hi := hi) hx hy hm
  rw [mv_encK] at h
  by_cases hk : k ∈ ks
  · rw [if_pos hk] at h; rw [decide_eq_true hk]; exact h
  · rw [if_neg hk] at h; rw [decide_eq_false hk]; exact h
theorem ex_lenK {t kt e b : Nat} {x : Operand} {ks : List Int} {w0 : World} {M : Nat → Prop} {H : List It} [ht : TMp P t kt e] (hx : ev l x = some (.map (some b))) (hm : sk b ks ∈ H) :
    Ex P N l (HS w0 M H) ⟨d, .call ⟨.builtin .len, #[x], #[t]⟩, T, pos, af, g⟩ (.int .i64 ks.length) := by
  intro a w hA hH
  obtain ⟨F, es, clock, h1, h2, h3, h4⟩ := hH.sat hm
  have hl : es.length = ks.length := by
    have := congrArg List.length h1
    simpa [encK] using this
  simp [execOp, resolve, invoke, builtin, Builtin.len_, hA.ev hx, run_underlying ht.eq, run_getObj_map h4, goInt, hl]
theorem ex_lenK0 {t kt e : Nat} {x : Operand} {C : World → Prop} [ht : TMp P t kt e] (hx : ev l x = some (.map none)) :
    Ex P N l C ⟨d, .call ⟨.builtin .len, #[x], #[t]⟩, T, pos, af, g⟩ (.int .i64 0) := by
  intro a w hA hH
  simp [execOp, resolve, invoke, builtin, Builtin.len_, hA.ev hx, run_underlying ht.eq, goInt]
theorem op_rangeK {t kt e b clock : Nat} {el : List (Int × Nat)} {x : Operand} {w0 w : World} {M : Nat → Prop} {H : List It} [ht : TMp P t kt e] (hx : ev l x = some (.map (some b))) (hH : HS w0 M H w) (hm : mpK b el clock ∈ H) :
    Op1 P N l ⟨d, .range t x, T, pos, af, g⟩ w (fun v w' => ∃ r, v = .pointer (some (bat r 0)) ∧ HS w0 M (itr r b clock [] :: H) w') := op_range hx hH hm
/-- those met so far: done -/
theorem op_nextK {r b clock : Nat} {el done : List (Int × Nat)} {x : Operand} {w0 w : World} {M : Nat → Prop} {H : List It}
    (hx : ev l x = some (.pointer (some (bat r 0)))) (hH : HS w0 M H w) (hi : itr r b clock (done.map (·.2)) ∈ H) (hm : mpK b el clock ∈ H) (hok : ElK el clock) (hd : ∀ e ∈ done, e ∈ el) :
    Op1 P N l ⟨d, .next x false, T, pos, af, g⟩ w (fun v w' =>
      ((∀ e ∈ el, e ∈ done) ∧ v = .tuple #[.bool false] ∧ HS w0 M H w') ∨
      (∃ e ∈ el, e ∉ done ∧ v = .tuple #[.bool true, .int .i64 e.1, .bool true] ∧ ∀ H', Rp H (itr r b clock (done.map (·.2))) (itr r b clock ((done ++ [e]).map (·.2))) H' → HS w0 M H' w')) := by
  intro a hA K Q hK
  have hinj : ∀ e ∈ el, ∀ e' ∈ el, e.2 = e'.2 → e = e' := fun e he e' he' h2 => by
    have hn := hok.borns
    clear hm hd hi hH hK
    induction el with
    | nil => cases he
    | cons x el ih =>
      rw [List.map_cons, List.nodup_cons] at hn
      rcases List.mem_cons.1 he with rfl | h5 <;> rcases List.mem_cons.1 he' with rfl | h6
      · rfl
      · exact absurd (List.mem_map.2 ⟨e', h6, h2.symm⟩ : e.2 ∈ el.map (·.2)) hn.1
      · exact absurd (List.mem_map.2 ⟨e, h5, h2⟩ : e'.2 ∈ el.map (·.2)) hn.1
      · exact ih ⟨(List.nodup_cons.1 hok.keys).2, hn.2, fun e he => hok.lt e (.tail _ he)⟩ h5 h6 hn.2
  refine op_next hx hH hi hm hok.es a hA K Q fun v w' h => hK v w' ?_
  rcases h with ⟨h1, h2, h3⟩ | ⟨e, he, h1, h2, h3⟩
  · refine .inl ⟨fun e he => ?_, h2, h3⟩
    obtain ⟨e', he', h4⟩ := List.mem_map.1 (h1 (mkK e) (List.mem_map.2 ⟨e, he, rfl⟩))
    exact hinj e' (hd e' he') e he h4 ▸ he'
  · obtain ⟨e', he', rfl⟩ := List.mem_map.1 he
    refine .inr ⟨e', he', fun h4 => h1 (List.mem_map.2 ⟨e', h4, rfl⟩), h2, fun H' hr => h3 H' ?_⟩
    rw [List.map_append] at hr
    exact hr
theorem ex_entryK {r b clock : Nat} {el done : List (Int × Nat)} {x : Operand} {e : Int × Nat} {w0 : World} {M : Nat → Prop} {H : List It}
    (hx : ev l x = some (.pointer (some (bat r 0)))) (hi : itr r b clock ((done ++ [e]).map (·.2)) ∈ H) (hm : mpK b el clock ∈ H) (hok : ElK el clock) (he : e ∈ el) :
    Ex P N l (HS w0 M H) ⟨d, .entry x, T, pos, af, g⟩ (.tuple #[.int .i64 e.1, .bool true]) := by
  rw [List.map_append] at hi
  exact ex_entry (e := mkK e) hx hi hm hok.es.borns (List.mem_map.2 ⟨e, he, rfl⟩)
/-- nothing to go through: a nil map -/
def itr0 (r : Nat) : It := blk r (.mapIter none 0 #[] 0)
theorem op_rangeN {t kt e : Nat} {x : Operand} {w0 w : World} {M : Nat → Prop} {H : List It} [ht : TMp P t kt e] (hx : ev l x = some (.map none)) (hH : HS w0 M H w) :
    Op1 P N l ⟨d, .range t x, T, pos, af, g⟩ w (fun v w' => ∃ r, v = .pointer (some (bat r 0)) ∧ HS w0 M (itr0 r :: H) w') := by
  intro a hA K Q hK
  unfold Oper.wp
  simp only [execOp, hA.ev hx, Instr.range, Sem.run_bind, run_underlying ht.eq, Result.andThen_ok, Sem.run_pure, run_newObj, World.alloc_eq, Oper.upon]
  exact hK _ _ ⟨w.heap.size, rfl, hH.come_blk _⟩
theorem ex_nextN {r : Nat} {x : Operand} {w0 : World} {M : Nat → Prop} {H : List It} (hx : ev l x = some (.pointer (some (bat r 0)))) (hi : itr0 r ∈ H) :
    Ex P N l (HS w0 M H) ⟨d, .next x false, T, pos, af, g⟩ (.tuple #[.bool false]) := by
  intro a w hA hH
  have h6 := HS.blk_at hH hi
  simp only [execOp, hA.ev hx, bat, Instr.next, Sem.run_bind, run_getObj_iter h6, Result.andThen_ok, Sem.run_pure]
end
theorem done_lt {el done : List (Int × Nat)} {e : Int × Nat} (hn : done.Nodup) (hd : ∀ e ∈ done, e ∈ el) (he : e ∈ el) (h : e ∉ done) : done.length < el.length := by
  have h1 : (done ++ [e]).Nodup := List.nodup_append.2 ⟨hn, List.nodup_cons.2 ⟨List.not_mem_nil, List.nodup_nil⟩, fun a ha b hb => by rw [List.mem_singleton] at hb; subst hb; exact fun e => h (e ▸ ha)⟩
  have h2 : ∀ (l m : List (Int × Nat)), l.Nodup → (∀ x ∈ l, x ∈ m) → l.length ≤ m.length := by
    intro l
    induction l with
    | nil => intro m _ _; exact Nat.zero_le _
    | cons x l ih =>
      intro m hn hs
      have hx := hs x (.head _)
      have := ih (m.erase x) (List.nodup_cons.1 hn).2 fun y hy => (List.mem_erase_of_ne fun (e : y = x) => (List.nodup_cons.1 hn).1 (e ▸ hy)).2 (hs y (.tail _ hy))
      rw [List.length_erase_of_mem hx] at this
      have := List.length_pos_of_mem hx
      rw [List.length_cons]
      omega
  have := h2 _ el h1 fun x hx => by
    rcases List.mem_append.1 hx with hx | hx
    · exact hd x hx
    · rw [List.mem_singleton] at hx; subst hx; exact he
  rw [List.length_append] at this
  exact this
end Go.Fw
namespace Go.Proofs.Ytjfanjcoppeeaaa
open Go Go.Fw
set_option linter.unusedVariables false
def uses (l : List Atm) (x : Int) : Bool := l.any fun a => decide (a.k = 1) && decide (a.n = x)
theorem take_snoc {α : Type} {l : List α} {i : Nat} {x : α} (h : l[i]? = some x) : l.take (i + 1) = l.take i ++ [x] := by
  obtain ⟨hi, rfl⟩ := List.getElem?_eq_some_iff.1 h
  rw [List.take_succ_eq_append_getElem hi]
theorem uses_snoc {l : List Atm} {i : Nat} {a : Atm} (h : l[i]? = some a) (x : Int) : uses (l.take (i + 1)) x = (uses (l.take i) x || (decide (a.k = 1) && decide (a.n = x))) := by
  unfold uses
  rw [take_snoc h, List.any_append]
  simp
theorem uses_add {l : List Atm} {i : Nat} {a : Atm} {ks ks' : List Int} (h : l[i]? = some a) (hk : a.k = 1) (hks : ∀ x, x ∈ ks' ↔ x ∈ ks ∨ uses (l.take i) x = true) (y : Int) : y ∈ sadd ks' a.n ↔ y ∈ ks ∨ uses (l.take (i + 1)) y = true := by
  rw [mem_sadd, hks, uses_snoc h, Bool.or_eq_true, or_assoc, decide_eq_true hk, Bool.true_and, decide_eq_true_iff, eq_comm (a := a.n)]
theorem uses_not {l : List Atm} {i : Nat} {a : Atm} {ks ks' : List Int} (h : l[i]? = some a) (hk : ¬ a.k = 1) (hks : ∀ x, x ∈ ks' ↔ x ∈ ks ∨ uses (l.take i) x = true) (y : Int) : y ∈ ks' ↔ y ∈ ks ∨ uses (l.take (i + 1)) y = true := by
  rw [hks, uses_snoc h, decide_eq_false hk, Bool.false_and, Bool.or_false]
set_option maxRecDepth 10000 attribute [local irreducible] Code.wp wpList Calls Ex Op1 sat bat blk cb own Go.Fw.mp Go.Fw.mpO Go.Fw.mpI Go.Fw.mpE Go.Fw.itr HS Rd Ret wkD Hp Cl Cls Exit.then Exit.inBlock Exit.noGoto bodyPost Go.Fw.flat wk2 Go.Fw.all Go.Fw.owns wpOp
attribute [local irreducible] sk mpK

set_option maxHeartbeats 2000000 in
theorem use_spec (w0 w : World) (H : List It) (b : Nat) (ks : List Int) (v : Vec Atm) (hH : HS w0 noM (sk b ks :: H) w) (hR : RdV w0 encAt v) :
    Ret Try.prog 63 #[.map (some b), .slice v.o v.l.length v.c] w (fun _ w' => ∃ ks', (∀ x, x ∈ ks' ↔ x ∈ ks ∨ uses v.l x = true) ∧ HS w0 noM (sk b ks' :: H) w') := by
  have hle := hR.le
  have hsp : Sp v.o v.l.length := hR.1.sp (sz := 2) (flat_length encAt_len _) (by omega)
  (refine enter (N := 19) Try.func63 rfl Try.ntmps63 rfl ?_; intro a hA; dsimp only [sl0, Nat.reduceAdd] at hA)
  repeat' (first | (first | (refine GT ?_ ?_ <;> intro hg <;> clear hA a <;> intro a hA <;> (first | exact FA | replace hg := of_decide_eq_true hg | replace hg := of_decide_eq_false hg | skip)) | (refine QT ?_; clear hA a; intro a hA) | (first | (refine BT ?_; clear hA hH; rintro _ w ⟨bN, rfl, hH⟩ a hA) | (refine LT ?_; clear hA hH; rintro _ w ⟨oN, rfl, hH⟩ a hA) | (refine AT ?_; clear hA; rintro _ w ⟨oN, cN, rfl, hH2⟩ a hA; clear hH; have hH := (hH2 _ (by (repeat constructor))).tail; clear hH2) | (refine S0T ?_; clear hH; rintro _ w hH) )) | ((first | refine CT ?_ | (refine DT ?_ ?_ <;> intro hc <;> try (exfalso; omega))) <;> repeat' refine CT ?_) | (first | (refine DSK ?_; clear hA a; intro a hA) | (first | (refine DLT ?_; clear hA hH; rintro _ w ⟨oN, rfl, hH⟩; refine ⟨STT, ?_⟩; intro a hA) | (refine DAT ?_; clear hA; rintro _ w ⟨oN, cN, rfl, hH2⟩; clear hH; have hH := (hH2 _ (by (repeat constructor))).tail; clear hH2; refine ⟨STT, ?_⟩; intro a hA))) )
  refine wp_lpk (S := Nat) (fun i a w => ∃ ks', (i ≤ v.l.length ∧ ∀ x, x ∈ ks' ↔ x ∈ ks ∨ uses (v.l.take i) x = true) ∧ HS w0 noM (sk b ks' :: H) w ∧ Sl 19 [(0, .map (some b)), (6, .slice v.o v.l.length v.c), (7, .int .i64 v.l.length), (8, .int .i64 i)] a) (fun i => v.l.length - i)
    (fun a w => ∃ ks', (∀ x, x ∈ ks' ↔ x ∈ ks ∨ uses v.l x = true) ∧ HS w0 noM (sk b ks' :: H) w ∧ Sl 19 [] a) 0 ⟨ks, ⟨Nat.zero_le _, fun x => by simp [uses]⟩, hH, (hA.sub (by (repeat (first | exact trivial | refine ⟨rfl, ?_⟩))))⟩ ?_ ?_
  · clear hA hH
    rintro i a w ⟨ks', ⟨hi, hks⟩, hH, hA⟩
    by_cases hlt : i < v.l.length
    rotate_left
    · obtain rfl : i = v.l.length := by omega
      rw [List.take_length] at hks
      repeat' (first | (first | (refine GT ?_ ?_ <;> intro hg <;> clear hA a <;> intro a hA <;> (first | exact FA | replace hg := of_decide_eq_true hg | replace hg := of_decide_eq_false hg | skip)) | (refine QT ?_; clear hA a; intro a hA) | (first | (refine BT ?_; clear hA hH; rintro _ w ⟨bN, rfl, hH⟩ a hA) | (refine LT ?_; clear hA hH; rintro _ w ⟨oN, rfl, hH⟩ a hA) | (refine AT ?_; clear hA; rintro _ w ⟨oN, cN, rfl, hH2⟩ a hA; clear hH; have hH := (hH2 _ (by (repeat constructor))).tail; clear hH2) | (refine S0T ?_; clear hH; rintro _ w hH) )) | ((first | refine CT ?_ | (refine DT ?_ ?_ <;> intro hc <;> try (exfalso; omega))) <;> repeat' refine CT ?_) | (first | (refine DSK ?_; clear hA a; intro a hA) | (first | (refine DLT ?_; clear hA hH; rintro _ w ⟨oN, rfl, hH⟩; refine ⟨STT, ?_⟩; intro a hA) | (refine DAT ?_; clear hA; rintro _ w ⟨oN, cN, rfl, hH2⟩; clear hH; have hH := (hH2 _ (by (repeat constructor))).tail; clear hH2; refine ⟨STT, ?_⟩; intro a hA))) )
      exact ⟨ks', hks, hH, (hA.sub (by (repeat (first | exact trivial | refine ⟨rfl, ?_⟩))))⟩
    obtain ⟨x, hx⟩ : ∃ x, v.l[i]? = some x := ⟨_, List.getElem?_eq_getElem hlt⟩
    have hvs := flat_all encAt_len hx
    repeat' (first | (first | (refine GT ?_ ?_ <;> intro hg <;> clear hA a <;> intro a hA <;> (first | exact FA | replace hg := of_decide_eq_true hg | replace hg := of_decide_eq_false hg | skip)) | ((first | apply st_ex hA hH rfl rfl (by decide) | apply dr_ex hA rfl rfl rfl (by decide) | apply dr_exp hA rfl rfl rfl (by decide) | apply dr_ex3 hA hH rfl rfl rfl (by decide)); (first | (apply ex_load_st (vs := encAt x); rfl; rfl; exact cls_rd hR.1 id hvs)); clear hA a; intro a hA) | (refine QT ?_; clear hA a; intro a hA) | (first | (refine BT ?_; clear hA hH; rintro _ w ⟨bN, rfl, hH⟩ a hA) | (refine LT ?_; clear hA hH; rintro _ w ⟨oN, rfl, hH⟩ a hA) | (refine AT ?_; clear hA; rintro _ w ⟨oN, cN, rfl, hH2⟩ a hA; clear hH; have hH := (hH2 _ (by (repeat constructor))).tail; clear hH2) | (refine S0T ?_; clear hH; rintro _ w hH) | (apply st_op0 hA rfl rfl; apply op_store_agg (vs := encAt x); rfl; rfl; exact hH; (repeat constructor); (repeat rfl); clear hH; rintro _ w hH) | (apply st_op0 hA rfl rfl; apply op_addK; rfl; rfl; rfl; exact hH; (repeat constructor); clear hH; rintro _ w hH))) | ((first | refine CT ?_ | (refine DT ?_ ?_ <;> intro hc <;> try (exfalso; omega))) <;> repeat' refine CT ?_) | (first | (refine DSK ?_; clear hA a; intro a hA) | (first | (refine DLT ?_; clear hA hH; rintro _ w ⟨oN, rfl, hH⟩; refine ⟨STT, ?_⟩; intro a hA) | (refine DAT ?_; clear hA; rintro _ w ⟨oN, cN, rfl, hH2⟩; clear hH; have hH := (hH2 _ (by (repeat constructor))).tail; clear hH2; refine ⟨STT, ?_⟩; intro a hA))) )
    · refine ⟨i + 1, ⟨_, ⟨hlt, fun y => ?_⟩, hH.tail, (hA.sub (by (repeat (first | exact trivial | refine ⟨rfl, ?_⟩))))⟩, by omega⟩
      exact uses_add hx (by assumption) hks y
    · refine ⟨i + 1, ⟨_, ⟨hlt, fun y => ?_⟩, hH.tail, (hA.sub (by (repeat (first | exact trivial | refine ⟨rfl, ?_⟩))))⟩, by omega⟩
      exact uses_not hx (by assumption) hks y
  clear hA hH
  rintro a w ⟨ks', hks, hH, hA⟩
  exact rt0 (.inr rfl) rfl hA ⟨ks', hks, hH⟩

set_option maxHeartbeats 2000000 in
theorem clone_spec (w0 w : World) (H : List It) (b : Nat) (ks : List Int) (hH : HS w0 noM (sk b ks :: H) w) :
    Ret Try.prog 39 #[.map (some b)] w (fun r w' => ∃ b' ks', r = .map (some b') ∧ (∀ x, x ∈ ks' ↔ x ∈ ks) ∧ HS w0 noM (sk b' ks' :: sk b ks :: H) w') := by
  (refine enter (N := 15) Try.func39 rfl Try.ntmps39 rfl ?_; intro a hA; dsimp only [sl0, Nat.reduceAdd] at hA)
  repeat' (first | (first | (refine GT ?_ ?_ <;> intro hg <;> clear hA a <;> intro a hA <;> (first | exact FA | replace hg := of_decide_eq_true hg | replace hg := of_decide_eq_false hg | skip)) | (refine QT ?_; clear hA a; intro a hA) | (first | (refine BT ?_; clear hA hH; rintro _ w ⟨bN, rfl, hH⟩ a hA) | (refine LT ?_; clear hA hH; rintro _ w ⟨oN, rfl, hH⟩ a hA) | (refine AT ?_; clear hA; rintro _ w ⟨oN, cN, rfl, hH2⟩ a hA; clear hH; have hH := (hH2 _ (by (repeat constructor))).tail; clear hH2) | (refine S0T ?_; clear hH; rintro _ w hH) | (refine st_op hA rfl rfl (by decide) (op_makeMapK hH) ?_; clear hA hH; rintro _ w ⟨b', rfl, hH⟩ a hA))) | ((first | refine CT ?_ | (refine DT ?_ ?_ <;> intro hc <;> try (exfalso; omega))) <;> repeat' refine CT ?_) | (first | (refine DSK ?_; clear hA a; intro a hA) | (first | (refine DLT ?_; clear hA hH; rintro _ w ⟨oN, rfl, hH⟩; refine ⟨STT, ?_⟩; intro a hA) | (refine DAT ?_; clear hA; rintro _ w ⟨oN, cN, rfl, hH2⟩; clear hH; have hH := (hH2 _ (by (repeat constructor))).tail; clear hH2; refine ⟨STT, ?_⟩; intro a hA))) )
  obtain ⟨el, clock, hel, hok, hop⟩ := hH.openK (b := b) (ks := ks) (by exact MEMT)
  replace hH := hop _ (by (repeat constructor))
  clear hop
  (refine st_op hA rfl rfl (by decide) (op_rangeK rfl hH (by exact MEMT)) ?_; clear hA hH; rintro _ w ⟨r, rfl, hH⟩ a hA)
  repeat' (first | (first | (refine GT ?_ ?_ <;> intro hg <;> clear hA a <;> intro a hA <;> (first | exact FA | replace hg := of_decide_eq_true hg | replace hg := of_decide_eq_false hg | skip)) | (refine QT ?_; clear hA a; intro a hA) | (first | (refine BT ?_; clear hA hH; rintro _ w ⟨bN, rfl, hH⟩ a hA) | (refine LT ?_; clear hA hH; rintro _ w ⟨oN, rfl, hH⟩ a hA) | (refine AT ?_; clear hA; rintro _ w ⟨oN, cN, rfl, hH2⟩ a hA; clear hH; have hH := (hH2 _ (by (repeat constructor))).tail; clear hH2) | (refine S0T ?_; clear hH; rintro _ w hH) )) | ((first | refine CT ?_ | (refine DT ?_ ?_ <;> intro hc <;> try (exfalso; omega))) <;> repeat' refine CT ?_) | (first | (refine DSK ?_; clear hA a; intro a hA) | (first | (refine DLT ?_; clear hA hH; rintro _ w ⟨oN, rfl, hH⟩; refine ⟨STT, ?_⟩; intro a hA) | (refine DAT ?_; clear hA; rintro _ w ⟨oN, cN, rfl, hH2⟩; clear hH; have hH := (hH2 _ (by (repeat constructor))).tail; clear hH2; refine ⟨STT, ?_⟩; intro a hA))) )
  refine wp_lpk (S := List (Int × Nat)) (fun dn a w => ∃ ks', (dn.Nodup ∧ (∀ e ∈ dn, e ∈ el) ∧ ∀ x, x ∈ ks' ↔ x ∈ dn.map (·.1)) ∧ HS w0 noM (itr r b clock (dn.map (·.2)) :: sk b' ks' :: mpK b el clock :: H) w ∧ Sl 15 [(7, .pointer (some (bat r 0))), (3, .map (some b'))] a) (fun dn => el.length - dn.length)
    (fun a w => ∃ ks', (∀ x, x ∈ ks' ↔ x ∈ ks) ∧ HS w0 noM (sk b' ks' :: sk b ks :: H) w ∧ Sl 15 [(3, .map (some b'))] a) [] ⟨[], ⟨List.nodup_nil, fun e he => absurd he List.not_mem_nil, fun x => Iff.rfl⟩, hH, (hA.sub (by (repeat (first | exact trivial | refine ⟨rfl, ?_⟩))))⟩ ?_ ?_
  · clear hA hH
    rintro dn a w ⟨ks', ⟨hn, hd, hks⟩, hH, hA⟩
    repeat' (first | (first | (refine GT ?_ ?_ <;> intro hg <;> clear hA a <;> intro a hA <;> (first | exact FA | replace hg := of_decide_eq_true hg | replace hg := of_decide_eq_false hg | skip)) | (refine QT ?_; clear hA a; intro a hA) | (first | (refine BT ?_; clear hA hH; rintro _ w ⟨bN, rfl, hH⟩ a hA) | (refine LT ?_; clear hA hH; rintro _ w ⟨oN, rfl, hH⟩ a hA) | (refine AT ?_; clear hA; rintro _ w ⟨oN, cN, rfl, hH2⟩ a hA; clear hH; have hH := (hH2 _ (by (repeat constructor))).tail; clear hH2) | (refine S0T ?_; clear hH; rintro _ w hH) )) | ((first | refine CT ?_ | (refine DT ?_ ?_ <;> intro hc <;> try (exfalso; omega))) <;> repeat' refine CT ?_) | (first | (refine DSK ?_; clear hA a; intro a hA) | (first | (refine DLT ?_; clear hA hH; rintro _ w ⟨oN, rfl, hH⟩; refine ⟨STT, ?_⟩; intro a hA) | (refine DAT ?_; clear hA; rintro _ w ⟨oN, cN, rfl, hH2⟩; clear hH; have hH := (hH2 _ (by (repeat constructor))).tail; clear hH2; refine ⟨STT, ?_⟩; intro a hA))) )
    refine st_op hA rfl rfl (by decide) (op_nextK rfl hH (by exact MEMT) (by exact MEMT) hok hd) ?_
    clear hA
    rintro _ w2 (⟨hall, rfl, hH⟩ | ⟨e, he, hs, rfl, hup⟩) a hA
    · repeat' (first | (first | (refine GT ?_ ?_ <;> intro hg <;> clear hA a <;> intro a hA <;> (first | exact FA | replace hg := of_decide_eq_true hg | replace hg := of_decide_eq_false hg | skip)) | (refine QT ?_; clear hA a; intro a hA) | (first | (refine BT ?_; clear hA hH; rintro _ w ⟨bN, rfl, hH⟩ a hA) | (refine LT ?_; clear hA hH; rintro _ w ⟨oN, rfl, hH⟩ a hA) | (refine AT ?_; clear hA; rintro _ w ⟨oN, cN, rfl, hH2⟩ a hA; clear hH; have hH := (hH2 _ (by (repeat constructor))).tail; clear hH2) | (refine S0T ?_; clear hH; rintro _ w hH) )) | ((first | refine CT ?_ | (refine DT ?_ ?_ <;> intro hc <;> try (exfalso; omega))) <;> repeat' refine CT ?_) | (first | (refine DSK ?_; clear hA a; intro a hA) | (first | (refine DLT ?_; clear hA hH; rintro _ w ⟨oN, rfl, hH⟩; refine ⟨STT, ?_⟩; intro a hA) | (refine DAT ?_; clear hA; rintro _ w ⟨oN, cN, rfl, hH2⟩; clear hH; have hH := (hH2 _ (by (repeat constructor))).tail; clear hH2; refine ⟨STT, ?_⟩; intro a hA))) )
      replace hH := hH.shutK (b := b) hok (by (repeat constructor))
      rw [hel] at hH
      refine ⟨ks', fun x => ?_, hH.tail, (hA.sub (by (repeat (first | exact trivial | refine ⟨rfl, ?_⟩))))⟩
      rw [hks, ← hel]
      exact ⟨fun h => by obtain ⟨e, he, rfl⟩ := List.mem_map.1 h; exact List.mem_map.2 ⟨e, hd e he, rfl⟩, fun h => by obtain ⟨e, he, rfl⟩ := List.mem_map.1 h; exact List.mem_map.2 ⟨e, hall e he, rfl⟩⟩
    · have hlt := done_lt hn hd he hs
      clear hH
      have hH := hup _ (by (repeat constructor))
      clear hup
      repeat' (first | (first | (refine GT ?_ ?_ <;> intro hg <;> clear hA a <;> intro a hA <;> (first | exact FA | replace hg := of_decide_eq_true hg | replace hg := of_decide_eq_false hg | skip)) | ((first | apply st_ex hA hH rfl rfl (by decide) | apply dr_ex hA rfl rfl rfl (by decide) | apply dr_exp hA rfl rfl rfl (by decide) | apply dr_ex3 hA hH rfl rfl rfl (by decide)); (first | (apply ex_entryK; rfl; exact MEMT; exact MEMT; exact hok; exact he)); clear hA a; intro a hA) | (refine QT ?_; clear hA a; intro a hA) | (first | (refine BT ?_; clear hA hH; rintro _ w ⟨bN, rfl, hH⟩ a hA) | (refine LT ?_; clear hA hH; rintro _ w ⟨oN, rfl, hH⟩ a hA) | (refine AT ?_; clear hA; rintro _ w ⟨oN, cN, rfl, hH2⟩ a hA; clear hH; have hH := (hH2 _ (by (repeat constructor))).tail; clear hH2) | (refine S0T ?_; clear hH; rintro _ w hH) | (apply st_op0 hA rfl rfl; apply op_addK; rfl; rfl; rfl; exact hH; (repeat constructor); clear hH; rintro _ w hH))) | ((first | refine CT ?_ | (refine DT ?_ ?_ <;> intro hc <;> try (exfalso; omega))) <;> repeat' refine CT ?_) | (first | (refine DSK ?_; clear hA a; intro a hA) | (first | (refine DLT ?_; clear hA hH; rintro _ w ⟨oN, rfl, hH⟩; refine ⟨STT, ?_⟩; intro a hA) | (refine DAT ?_; clear hA; rintro _ w ⟨oN, cN, rfl, hH2⟩; clear hH; have hH := (hH2 _ (by (repeat constructor))).tail; clear hH2; refine ⟨STT, ?_⟩; intro a hA))) )
      refine ⟨dn ++ [e], ⟨_, ⟨?_, ?_, ?_⟩, hH, (hA.sub (by (repeat (first | exact trivial | refine ⟨rfl, ?_⟩))))⟩, ?_⟩
      · exact List.nodup_append.2 ⟨hn, List.nodup_cons.2 ⟨List.not_mem_nil, List.nodup_nil⟩, fun a ha b hb => by rw [List.mem_singleton] at hb; subst hb; exact fun e => hs (e ▸ ha)⟩
      · intro e' h
        rcases List.mem_append.1 h with h | h
        · exact hd e' h
        · rw [List.mem_singleton] at h; rw [h]; exact he
      · intro x
        rw [mem_sadd, hks, List.map_append, List.mem_append]
        exact or_congr Iff.rfl List.mem_singleton.symm
      · rw [List.length_append]
        show el.length - (dn.length + 1) < _
        omega
  clear hA hH
  rintro a w ⟨ks', hks, hH, hA⟩
  repeat' (first | (first | (refine GT ?_ ?_ <;> intro hg <;> clear hA a <;> intro a hA <;> (first | exact FA | replace hg := of_decide_eq_true hg | replace hg := of_decide_eq_false hg | skip)) | (refine QT ?_; clear hA a; intro a hA) | (first | (refine BT ?_; clear hA hH; rintro _ w ⟨bN, rfl, hH⟩ a hA) | (refine LT ?_; clear hA hH; rintro _ w ⟨oN, rfl, hH⟩ a hA) | (refine AT ?_; clear hA; rintro _ w ⟨oN, cN, rfl, hH2⟩ a hA; clear hH; have hH := (hH2 _ (by (repeat constructor))).tail; clear hH2) | (refine S0T ?_; clear hH; rintro _ w hH) )) | ((first | refine CT ?_ | (refine DT ?_ ?_ <;> intro hc <;> try (exfalso; omega))) <;> repeat' refine CT ?_) | (first | (refine DSK ?_; clear hA a; intro a hA) | (first | (refine DLT ?_; clear hA hH; rintro _ w ⟨oN, rfl, hH⟩; refine ⟨STT, ?_⟩; intro a hA) | (refine DAT ?_; clear hA; rintro _ w ⟨oN, cN, rfl, hH2⟩; clear hH; have hH := (hH2 _ (by (repeat constructor))).tail; clear hH2; refine ⟨STT, ?_⟩; intro a hA))) )
  exact rt1 (.inl rfl) rfl hA rfl ⟨b', ks', rfl, hks, hH⟩
end Go.Proofs.Ytjfanjcoppeeaaa
