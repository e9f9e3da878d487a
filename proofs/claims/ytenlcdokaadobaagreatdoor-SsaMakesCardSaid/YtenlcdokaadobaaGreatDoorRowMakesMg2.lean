/-
  What is known of this seat's types and functions, for the frame. Printed by a program. Conditions: none.
  Graphs as they lie in memory; sets, or nil; rows. Conditions: none.
  Graphs that may be, exactly (plain). Conditions: none.
  ssa.May's check: what it holds, bind, atoms; how many parts graphs have, as an int. Conditions: none.
  anf.Step, exactly. Conditions: none.
  ssa.May's check: step, end, exactly. Conditions: none.
  ssa.May's check: meet. Conditions: none.
-/
import Derived.Test.YtenlcdokaadobaaGreatDoorRows
import Derived.Test.YtenlcdokaadobaaGreatDoorRowMakesMg1
set_option maxHeartbeats 64000000
set_option maxRecDepth 10000
namespace Go.Proofs.YtenlcdokaadobaaGreatDoor
open Go Go.Fw
set_option maxRecDepth 100000
instance:TSc Tryz.prog 1:=⟨_,Tryz.underlying1,rfl⟩
instance:TIf Tryz.prog 1 .nilFunc [.nilFunc] 1 8:=⟨⟨Tryz.t1,rfl,rfl,rfl,rfl⟩,rfl⟩
instance:TSc Tryz.prog 2:=⟨_,Tryz.underlying2,rfl⟩
instance:TIn Tryz.prog 2 .i64:=⟨Tryz.underlying2⟩
instance:TIf Tryz.prog 2 (.int .i64 0) [(.int .i64 0)] 1 8:=⟨⟨Tryz.t2,rfl,rfl,rfl,rfl⟩,rfl⟩
instance:TSc Tryz.prog 3:=⟨_,Tryz.underlying3,rfl⟩
instance:TIn Tryz.prog 3 .i64:=⟨Tryz.underlying3⟩
instance:TIf Tryz.prog 3 (.int .i64 0) [(.int .i64 0)] 1 8:=⟨⟨Tryz.t3,rfl,rfl,rfl,rfl⟩,rfl⟩
instance:TSc Tryz.prog 4:=⟨_,Tryz.underlying4,rfl⟩
instance:TBo Tryz.prog 4:=⟨Tryz.underlying4⟩
instance:TIf Tryz.prog 4 (.bool false) [(.bool false)] 1 1:=⟨⟨Tryz.t4,rfl,rfl,rfl,rfl⟩,rfl⟩
instance:TSc Tryz.prog 5:=⟨_,Tryz.underlying5,rfl⟩
instance:TIn Tryz.prog 5 .u8:=⟨Tryz.underlying5⟩
instance:TIf Tryz.prog 5 (.int .u8 0) [(.int .u8 0)] 1 1:=⟨⟨Tryz.t5,rfl,rfl,rfl,rfl⟩,rfl⟩
instance:TSc Tryz.prog 6:=⟨_,Tryz.underlying6,rfl⟩
instance:TIn Tryz.prog 6 .u8:=⟨Tryz.underlying6⟩
instance:TIf Tryz.prog 6 (.int .u8 0) [(.int .u8 0)] 1 1:=⟨⟨Tryz.t6,rfl,rfl,rfl,rfl⟩,rfl⟩
instance:TSt Tryz.prog 7 [(2,0),(3,1),(4,2),(6,3)]:=⟨⟨_,Tryz.underlying7,rfl⟩,List.forall_mem_cons.2 ⟨⟨Tryz.t2,rfl,by decide⟩,List.forall_mem_cons.2 ⟨⟨Tryz.t3,rfl,by decide⟩,List.forall_mem_cons.2 ⟨⟨Tryz.t4,rfl,by decide⟩,List.forall_mem_cons.2 ⟨⟨Tryz.t6,rfl,by decide⟩,nofun⟩⟩⟩⟩⟩
instance:TIf Tryz.prog 7 (.agg #[(.int .i64 0),(.int .i64 0),(.bool false),(.int .u8 0)]) [(.int .i64 0),(.int .i64 0),(.bool false),(.int .u8 0)] 4 24:=⟨⟨Tryz.t7,rfl,rfl,rfl,rfl⟩,rfl⟩
instance:TSt Tryz.prog 8 [(2,0),(3,1),(4,2),(6,3)]:=⟨⟨_,Tryz.underlying8,rfl⟩,List.forall_mem_cons.2 ⟨⟨Tryz.t2,rfl,by decide⟩,List.forall_mem_cons.2 ⟨⟨Tryz.t3,rfl,by decide⟩,List.forall_mem_cons.2 ⟨⟨Tryz.t4,rfl,by decide⟩,List.forall_mem_cons.2 ⟨⟨Tryz.t6,rfl,by decide⟩,nofun⟩⟩⟩⟩⟩
instance:TIf Tryz.prog 8 (.agg #[(.int .i64 0),(.int .i64 0),(.bool false),(.int .u8 0)]) [(.int .i64 0),(.int .i64 0),(.bool false),(.int .u8 0)] 4 24:=⟨⟨Tryz.t8,rfl,rfl,rfl,rfl⟩,rfl⟩
instance:TSc Tryz.prog 9:=⟨_,Tryz.underlying9,rfl⟩
instance:TSr Tryz.prog 9:=⟨Tryz.underlying9⟩
instance:TIf Tryz.prog 9 (.string ByteArray.empty) [(.string ByteArray.empty)] 1 16:=⟨⟨Tryz.t9,rfl,rfl,rfl,rfl⟩,rfl⟩
instance:TSc Tryz.prog 10:=⟨_,Tryz.underlying10,rfl⟩
instance:TSr Tryz.prog 10:=⟨Tryz.underlying10⟩
instance:TIf Tryz.prog 10 (.string ByteArray.empty) [(.string ByteArray.empty)] 1 16:=⟨⟨Tryz.t10,rfl,rfl,rfl,rfl⟩,rfl⟩
instance:TSc Tryz.prog 11:=⟨_,Tryz.underlying11,rfl⟩
instance:TSr Tryz.prog 11:=⟨Tryz.underlying11⟩
instance:TIf Tryz.prog 11 (.string ByteArray.empty) [(.string ByteArray.empty)] 1 16:=⟨⟨Tryz.t11,rfl,rfl,rfl,rfl⟩,rfl⟩
instance:TSc Tryz.prog 12:=⟨_,Tryz.underlying12,rfl⟩
instance:TIn Tryz.prog 12 .u64:=⟨Tryz.underlying12⟩
instance:TIf Tryz.prog 12 (.int .u64 0) [(.int .u64 0)] 1 8:=⟨⟨Tryz.t12,rfl,rfl,rfl,rfl⟩,rfl⟩
instance:TSt Tryz.prog 13 [(9,0),(12,1)]:=⟨⟨_,Tryz.underlying13,rfl⟩,List.forall_mem_cons.2 ⟨⟨Tryz.t9,rfl,by decide⟩,List.forall_mem_cons.2 ⟨⟨Tryz.t12,rfl,by decide⟩,nofun⟩⟩⟩
instance:TIf Tryz.prog 13 (.agg #[(.string ByteArray.empty),(.int .u64 0)]) [(.string ByteArray.empty),(.int .u64 0)] 2 24:=⟨⟨Tryz.t13,rfl,rfl,rfl,rfl⟩,rfl⟩
instance:TSt Tryz.prog 14 [(9,0),(12,1)]:=⟨⟨_,Tryz.underlying14,rfl⟩,List.forall_mem_cons.2 ⟨⟨Tryz.t9,rfl,by decide⟩,List.forall_mem_cons.2 ⟨⟨Tryz.t12,rfl,by decide⟩,nofun⟩⟩⟩
instance:TIf Tryz.prog 14 (.agg #[(.string ByteArray.empty),(.int .u64 0)]) [(.string ByteArray.empty),(.int .u64 0)] 2 24:=⟨⟨Tryz.t14,rfl,rfl,rfl,rfl⟩,rfl⟩
instance:TSc Tryz.prog 15:=⟨_,Tryz.underlying15,rfl⟩
instance:TPt Tryz.prog 15:=⟨by unfold Program.pointee;rw [Tryz.underlying15]⟩
instance:TIf Tryz.prog 15 (.pointer none) [(.pointer none)] 1 8:=⟨⟨Tryz.t15,rfl,rfl,rfl,rfl⟩,rfl⟩
instance:TSc Tryz.prog 16:=⟨_,Tryz.underlying16,rfl⟩
instance:TPt Tryz.prog 16:=⟨by unfold Program.pointee;rw [Tryz.underlying16]⟩
instance:TIf Tryz.prog 16 (.pointer none) [(.pointer none)] 1 8:=⟨⟨Tryz.t16,rfl,rfl,rfl,rfl⟩,rfl⟩
instance:TSc Tryz.prog 21:=⟨_,Tryz.underlying21,rfl⟩
instance:TIn Tryz.prog 21 .i32:=⟨Tryz.underlying21⟩
instance:TIf Tryz.prog 21 (.int .i32 0) [(.int .i32 0)] 1 4:=⟨⟨Tryz.t21,rfl,rfl,rfl,rfl⟩,rfl⟩
instance:TSc Tryz.prog 22:=⟨_,Tryz.underlying22,rfl⟩
instance:TSl Tryz.prog 22 44:=⟨Tryz.underlying22⟩
instance:TIf Tryz.prog 22 (.slice none 0 0) [(.slice none 0 0)] 1 24:=⟨⟨Tryz.t22,rfl,rfl,rfl,rfl⟩,rfl⟩
instance:TSc Tryz.prog 23:=⟨_,Tryz.underlying23,rfl⟩
instance:TSl Tryz.prog 23 9:=⟨Tryz.underlying23⟩
instance:TIf Tryz.prog 23 (.slice none 0 0) [(.slice none 0 0)] 1 24:=⟨⟨Tryz.t23,rfl,rfl,rfl,rfl⟩,rfl⟩
instance:TSt Tryz.prog 25 [(22,0),(23,1),(23,2),(23,3),(23,4)]:=⟨⟨_,Tryz.underlying25,rfl⟩,List.forall_mem_cons.2 ⟨⟨Tryz.t22,rfl,by decide⟩,List.forall_mem_cons.2 ⟨⟨Tryz.t23,rfl,by decide⟩,List.forall_mem_cons.2 ⟨⟨Tryz.t23,rfl,by decide⟩,List.forall_mem_cons.2 ⟨⟨Tryz.t23,rfl,by decide⟩,List.forall_mem_cons.2 ⟨⟨Tryz.t23,rfl,by decide⟩,nofun⟩⟩⟩⟩⟩⟩
instance:TIf Tryz.prog 25 (.agg #[(.slice none 0 0),(.slice none 0 0),(.slice none 0 0),(.slice none 0 0),(.slice none 0 0)]) [(.slice none 0 0),(.slice none 0 0),(.slice none 0 0),(.slice none 0 0),(.slice none 0 0)] 5 120:=⟨⟨Tryz.t25,rfl,rfl,rfl,rfl⟩,rfl⟩
instance:TSt Tryz.prog 29 [(3,0),(9,1),(9,2)]:=⟨⟨_,Tryz.underlying29,rfl⟩,List.forall_mem_cons.2 ⟨⟨Tryz.t3,rfl,by decide⟩,List.forall_mem_cons.2 ⟨⟨Tryz.t9,rfl,by decide⟩,List.forall_mem_cons.2 ⟨⟨Tryz.t9,rfl,by decide⟩,nofun⟩⟩⟩⟩
instance:TIf Tryz.prog 29 (.agg #[(.int .i64 0),(.string ByteArray.empty),(.string ByteArray.empty)]) [(.int .i64 0),(.string ByteArray.empty),(.string ByteArray.empty)] 3 40:=⟨⟨Tryz.t29,rfl,rfl,rfl,rfl⟩,rfl⟩
instance:TSc Tryz.prog 32:=⟨_,Tryz.underlying32,rfl⟩
instance:TSl Tryz.prog 32 72:=⟨Tryz.underlying32⟩
instance:TIf Tryz.prog 32 (.slice none 0 0) [(.slice none 0 0)] 1 24:=⟨⟨Tryz.t32,rfl,rfl,rfl,rfl⟩,rfl⟩
instance:TSt Tryz.prog 34 [(32,0),(23,1),(23,2),(23,3),(23,4)]:=⟨⟨_,Tryz.underlying34,rfl⟩,List.forall_mem_cons.2 ⟨⟨Tryz.t32,rfl,by decide⟩,List.forall_mem_cons.2 ⟨⟨Tryz.t23,rfl,by decide⟩,List.forall_mem_cons.2 ⟨⟨Tryz.t23,rfl,by decide⟩,List.forall_mem_cons.2 ⟨⟨Tryz.t23,rfl,by decide⟩,List.forall_mem_cons.2 ⟨⟨Tryz.t23,rfl,by decide⟩,nofun⟩⟩⟩⟩⟩⟩
instance:TIf Tryz.prog 34 (.agg #[(.slice none 0 0),(.slice none 0 0),(.slice none 0 0),(.slice none 0 0),(.slice none 0 0)]) [(.slice none 0 0),(.slice none 0 0),(.slice none 0 0),(.slice none 0 0),(.slice none 0 0)] 5 120:=⟨⟨Tryz.t34,rfl,rfl,rfl,rfl⟩,rfl⟩
instance:TSc Tryz.prog 36:=⟨_,Tryz.underlying36,rfl⟩
instance:TIn Tryz.prog 36 .i64:=⟨Tryz.underlying36⟩
instance:TIf Tryz.prog 36 (.int .i64 0) [(.int .i64 0)] 1 8:=⟨⟨Tryz.t36,rfl,rfl,rfl,rfl⟩,rfl⟩
instance:TSc Tryz.prog 42:=⟨_,Tryz.underlying42,rfl⟩
instance:TSl Tryz.prog 42 53:=⟨Tryz.underlying42⟩
instance:TIf Tryz.prog 42 (.slice none 0 0) [(.slice none 0 0)] 1 24:=⟨⟨Tryz.t42,rfl,rfl,rfl,rfl⟩,rfl⟩
instance:TSt Tryz.prog 44 [(3,0),(42,1)]:=⟨⟨_,Tryz.underlying44,rfl⟩,List.forall_mem_cons.2 ⟨⟨Tryz.t3,rfl,by decide⟩,List.forall_mem_cons.2 ⟨⟨Tryz.t42,rfl,by decide⟩,nofun⟩⟩⟩
instance:TIf Tryz.prog 44 (.agg #[(.int .i64 0),(.slice none 0 0)]) [(.int .i64 0),(.slice none 0 0)] 2 32:=⟨⟨Tryz.t44,rfl,rfl,rfl,rfl⟩,rfl⟩
instance:TSc Tryz.prog 45:=⟨_,Tryz.underlying45,rfl⟩
instance:TSl Tryz.prog 45 3:=⟨Tryz.underlying45⟩
instance:TIf Tryz.prog 45 (.slice none 0 0) [(.slice none 0 0)] 1 24:=⟨⟨Tryz.t45,rfl,rfl,rfl,rfl⟩,rfl⟩
instance:TSc Tryz.prog 46:=⟨_,Tryz.underlying46,rfl⟩
instance:TSl Tryz.prog 46 59:=⟨Tryz.underlying46⟩
instance:TIf Tryz.prog 46 (.slice none 0 0) [(.slice none 0 0)] 1 24:=⟨⟨Tryz.t46,rfl,rfl,rfl,rfl⟩,rfl⟩
instance:TSc Tryz.prog 47:=⟨_,Tryz.underlying47,rfl⟩
instance:TSl Tryz.prog 47 65:=⟨Tryz.underlying47⟩
instance:TIf Tryz.prog 47 (.slice none 0 0) [(.slice none 0 0)] 1 24:=⟨⟨Tryz.t47,rfl,rfl,rfl,rfl⟩,rfl⟩
instance:TSc Tryz.prog 48:=⟨_,Tryz.underlying48,rfl⟩
instance:TSl Tryz.prog 48 2:=⟨Tryz.underlying48⟩
instance:TIf Tryz.prog 48 (.slice none 0 0) [(.slice none 0 0)] 1 24:=⟨⟨Tryz.t48,rfl,rfl,rfl,rfl⟩,rfl⟩
instance:TSc Tryz.prog 49:=⟨_,Tryz.underlying49,rfl⟩
instance:TSl Tryz.prog 49 61:=⟨Tryz.underlying49⟩
instance:TIf Tryz.prog 49 (.slice none 0 0) [(.slice none 0 0)] 1 24:=⟨⟨Tryz.t49,rfl,rfl,rfl,rfl⟩,rfl⟩
instance:TSt Tryz.prog 51 [(3,0),(47,1),(48,2),(49,3)]:=⟨⟨_,Tryz.underlying51,rfl⟩,List.forall_mem_cons.2 ⟨⟨Tryz.t3,rfl,by decide⟩,List.forall_mem_cons.2 ⟨⟨Tryz.t47,rfl,by decide⟩,List.forall_mem_cons.2 ⟨⟨Tryz.t48,rfl,by decide⟩,List.forall_mem_cons.2 ⟨⟨Tryz.t49,rfl,by decide⟩,nofun⟩⟩⟩⟩⟩
instance:TIf Tryz.prog 51 (.agg #[(.int .i64 0),(.slice none 0 0),(.slice none 0 0),(.slice none 0 0)]) [(.int .i64 0),(.slice none 0 0),(.slice none 0 0),(.slice none 0 0)] 4 80:=⟨⟨Tryz.t51,rfl,rfl,rfl,rfl⟩,rfl⟩
instance:TSt Tryz.prog 53 [(45,0),(46,1),(51,2)]:=⟨⟨_,Tryz.underlying53,rfl⟩,List.forall_mem_cons.2 ⟨⟨Tryz.t45,rfl,by decide⟩,List.forall_mem_cons.2 ⟨⟨Tryz.t46,rfl,by decide⟩,List.forall_mem_cons.2 ⟨⟨Tryz.t51,rfl,by decide⟩,nofun⟩⟩⟩⟩
instance:TIf Tryz.prog 53 (.agg #[(.slice none 0 0),(.slice none 0 0),(.int .i64 0),(.slice none 0 0),(.slice none 0 0),(.slice none 0 0)]) [(.slice none 0 0),(.slice none 0 0),(.int .i64 0),(.slice none 0 0),(.slice none 0 0),(.slice none 0 0)] 6 128:=⟨⟨Tryz.t53,rfl,rfl,rfl,rfl⟩,rfl⟩
instance:TSt Tryz.prog 57 [(3,0),(2,1),(48,2),(47,3)]:=⟨⟨_,Tryz.underlying57,rfl⟩,List.forall_mem_cons.2 ⟨⟨Tryz.t3,rfl,by decide⟩,List.forall_mem_cons.2 ⟨⟨Tryz.t2,rfl,by decide⟩,List.forall_mem_cons.2 ⟨⟨Tryz.t48,rfl,by decide⟩,List.forall_mem_cons.2 ⟨⟨Tryz.t47,rfl,by decide⟩,nofun⟩⟩⟩⟩⟩
instance:TIf Tryz.prog 57 (.agg #[(.int .i64 0),(.int .i64 0),(.slice none 0 0),(.slice none 0 0)]) [(.int .i64 0),(.int .i64 0),(.slice none 0 0),(.slice none 0 0)] 4 64:=⟨⟨Tryz.t57,rfl,rfl,rfl,rfl⟩,rfl⟩
instance:TSt Tryz.prog 59 [(3,0),(57,1)]:=⟨⟨_,Tryz.underlying59,rfl⟩,List.forall_mem_cons.2 ⟨⟨Tryz.t3,rfl,by decide⟩,List.forall_mem_cons.2 ⟨⟨Tryz.t57,rfl,by decide⟩,nofun⟩⟩⟩
instance:TIf Tryz.prog 59 (.agg #[(.int .i64 0),(.int .i64 0),(.int .i64 0),(.slice none 0 0),(.slice none 0 0)]) [(.int .i64 0),(.int .i64 0),(.int .i64 0),(.slice none 0 0),(.slice none 0 0)] 5 72:=⟨⟨Tryz.t59,rfl,rfl,rfl,rfl⟩,rfl⟩
instance:TSt Tryz.prog 61 [(3,0),(47,1)]:=⟨⟨_,Tryz.underlying61,rfl⟩,List.forall_mem_cons.2 ⟨⟨Tryz.t3,rfl,by decide⟩,List.forall_mem_cons.2 ⟨⟨Tryz.t47,rfl,by decide⟩,nofun⟩⟩⟩
instance:TIf Tryz.prog 61 (.agg #[(.int .i64 0),(.slice none 0 0)]) [(.int .i64 0),(.slice none 0 0)] 2 32:=⟨⟨Tryz.t61,rfl,rfl,rfl,rfl⟩,rfl⟩
instance:TSt Tryz.prog 65 [(3,0),(2,1)]:=⟨⟨_,Tryz.underlying65,rfl⟩,List.forall_mem_cons.2 ⟨⟨Tryz.t3,rfl,by decide⟩,List.forall_mem_cons.2 ⟨⟨Tryz.t2,rfl,by decide⟩,nofun⟩⟩⟩
instance:TIf Tryz.prog 65 (.agg #[(.int .i64 0),(.int .i64 0)]) [(.int .i64 0),(.int .i64 0)] 2 16:=⟨⟨Tryz.t65,rfl,rfl,rfl,rfl⟩,rfl⟩
instance:TSc Tryz.prog 68:=⟨_,Tryz.underlying68,rfl⟩
instance:TSl Tryz.prog 68 70:=⟨Tryz.underlying68⟩
instance:TIf Tryz.prog 68 (.slice none 0 0) [(.slice none 0 0)] 1 24:=⟨⟨Tryz.t68,rfl,rfl,rfl,rfl⟩,rfl⟩
instance:TSt Tryz.prog 70 [(3,0),(3,1),(45,2),(3,3),(48,4),(57,5),(47,9),(68,10)]:=⟨⟨_,Tryz.underlying70,rfl⟩,List.forall_mem_cons.2 ⟨⟨Tryz.t3,rfl,by decide⟩,List.forall_mem_cons.2 ⟨⟨Tryz.t3,rfl,by decide⟩,List.forall_mem_cons.2 ⟨⟨Tryz.t45,rfl,by decide⟩,List.forall_mem_cons.2 ⟨⟨Tryz.t3,rfl,by decide⟩,List.forall_mem_cons.2 ⟨⟨Tryz.t48,rfl,by decide⟩,List.forall_mem_cons.2 ⟨⟨Tryz.t57,rfl,by decide⟩,List.forall_mem_cons.2 ⟨⟨Tryz.t47,rfl,by decide⟩,List.forall_mem_cons.2 ⟨⟨Tryz.t68,rfl,by decide⟩,nofun⟩⟩⟩⟩⟩⟩⟩⟩⟩
instance:TIf Tryz.prog 70 (.agg #[(.int .i64 0),(.int .i64 0),(.slice none 0 0),(.int .i64 0),(.slice none 0 0),(.int .i64 0),(.int .i64 0),(.slice none 0 0),(.slice none 0 0),(.slice none 0 0),(.slice none 0 0)]) [(.int .i64 0),(.int .i64 0),(.slice none 0 0),(.int .i64 0),(.slice none 0 0),(.int .i64 0),(.int .i64 0),(.slice none 0 0),(.slice none 0 0),(.slice none 0 0),(.slice none 0 0)] 11 184:=⟨⟨Tryz.t70,rfl,rfl,rfl,rfl⟩,rfl⟩
instance:TSt Tryz.prog 72 [(3,0),(70,1)]:=⟨⟨_,Tryz.underlying72,rfl⟩,List.forall_mem_cons.2 ⟨⟨Tryz.t3,rfl,by decide⟩,List.forall_mem_cons.2 ⟨⟨Tryz.t70,rfl,by decide⟩,nofun⟩⟩⟩
instance:TIf Tryz.prog 72 (.agg #[(.int .i64 0),(.int .i64 0),(.int .i64 0),(.slice none 0 0),(.int .i64 0),(.slice none 0 0),(.int .i64 0),(.int .i64 0),(.slice none 0 0),(.slice none 0 0),(.slice none 0 0),(.slice none 0 0)]) [(.int .i64 0),(.int .i64 0),(.int .i64 0),(.slice none 0 0),(.int .i64 0),(.slice none 0 0),(.int .i64 0),(.int .i64 0),(.slice none 0 0),(.slice none 0 0),(.slice none 0 0),(.slice none 0 0)] 12 192:=⟨⟨Tryz.t72,rfl,rfl,rfl,rfl⟩,rfl⟩
instance:TSc Tryz.prog 74:=⟨_,Tryz.underlying74,rfl⟩
instance:TPt Tryz.prog 74:=⟨by unfold Program.pointee;rw [Tryz.underlying74]⟩
instance:TIf Tryz.prog 74 (.pointer none) [(.pointer none)] 1 8:=⟨⟨Tryz.t74,rfl,rfl,rfl,rfl⟩,rfl⟩
instance:TSc Tryz.prog 75:=⟨_,Tryz.underlying75,rfl⟩
instance:TSl Tryz.prog 75 5:=⟨Tryz.underlying75⟩
instance:TIf Tryz.prog 75 (.slice none 0 0) [(.slice none 0 0)] 1 24:=⟨⟨Tryz.t75,rfl,rfl,rfl,rfl⟩,rfl⟩
instance:TSt Tryz.prog 77 [(23,0),(23,1),(3,2),(9,3),(75,4)]:=⟨⟨_,Tryz.underlying77,rfl⟩,List.forall_mem_cons.2 ⟨⟨Tryz.t23,rfl,by decide⟩,List.forall_mem_cons.2 ⟨⟨Tryz.t23,rfl,by decide⟩,List.forall_mem_cons.2 ⟨⟨Tryz.t3,rfl,by decide⟩,List.forall_mem_cons.2 ⟨⟨Tryz.t9,rfl,by decide⟩,List.forall_mem_cons.2 ⟨⟨Tryz.t75,rfl,by decide⟩,nofun⟩⟩⟩⟩⟩⟩
instance:TIf Tryz.prog 77 (.agg #[(.slice none 0 0),(.slice none 0 0),(.int .i64 0),(.string ByteArray.empty),(.slice none 0 0)]) [(.slice none 0 0),(.slice none 0 0),(.int .i64 0),(.string ByteArray.empty),(.slice none 0 0)] 5 96:=⟨⟨Tryz.t77,rfl,rfl,rfl,rfl⟩,rfl⟩
instance:TSc Tryz.prog 78:=⟨_,Tryz.underlying78,rfl⟩
instance:TSl Tryz.prog 78 83:=⟨Tryz.underlying78⟩
instance:TIf Tryz.prog 78 (.slice none 0 0) [(.slice none 0 0)] 1 24:=⟨⟨Tryz.t78,rfl,rfl,rfl,rfl⟩,rfl⟩
instance:TSc Tryz.prog 79:=⟨_,Tryz.underlying79,rfl⟩
instance:TPt Tryz.prog 79:=⟨by unfold Program.pointee;rw [Tryz.underlying79]⟩
instance:TIf Tryz.prog 79 (.pointer none) [(.pointer none)] 1 8:=⟨⟨Tryz.t79,rfl,rfl,rfl,rfl⟩,rfl⟩
instance:TSc Tryz.prog 80:=⟨_,Tryz.underlying80,rfl⟩
instance:TMp Tryz.prog 80 3 137:=⟨Tryz.underlying80⟩
instance:TIf Tryz.prog 80 (.map none) [(.map none)] 1 8:=⟨⟨Tryz.t80,rfl,rfl,rfl,rfl⟩,rfl⟩
instance:TSc Tryz.prog 81:=⟨_,Tryz.underlying81,rfl⟩
instance:TPt Tryz.prog 81:=⟨by unfold Program.pointee;rw [Tryz.underlying81]⟩
instance:TIf Tryz.prog 81 (.pointer none) [(.pointer none)] 1 8:=⟨⟨Tryz.t81,rfl,rfl,rfl,rfl⟩,rfl⟩
instance:TSt Tryz.prog 83 [(79,0),(80,1),(81,2),(3,3),(79,4)]:=⟨⟨_,Tryz.underlying83,rfl⟩,List.forall_mem_cons.2 ⟨⟨Tryz.t79,rfl,by decide⟩,List.forall_mem_cons.2 ⟨⟨Tryz.t80,rfl,by decide⟩,List.forall_mem_cons.2 ⟨⟨Tryz.t81,rfl,by decide⟩,List.forall_mem_cons.2 ⟨⟨Tryz.t3,rfl,by decide⟩,List.forall_mem_cons.2 ⟨⟨Tryz.t79,rfl,by decide⟩,nofun⟩⟩⟩⟩⟩⟩
instance:TIf Tryz.prog 83 (.agg #[(.pointer none),(.map none),(.pointer none),(.int .i64 0),(.pointer none)]) [(.pointer none),(.map none),(.pointer none),(.int .i64 0),(.pointer none)] 5 40:=⟨⟨Tryz.t83,rfl,rfl,rfl,rfl⟩,rfl⟩
instance:TSc Tryz.prog 84:=⟨_,Tryz.underlying84,rfl⟩
instance:TPt Tryz.prog 84:=⟨by unfold Program.pointee;rw [Tryz.underlying84]⟩
instance:TIf Tryz.prog 84 (.pointer none) [(.pointer none)] 1 8:=⟨⟨Tryz.t84,rfl,rfl,rfl,rfl⟩,rfl⟩
instance:TSt Tryz.prog 86 [(77,0),(25,5),(2,10),(78,11),(83,12),(84,17)]:=⟨⟨_,Tryz.underlying86,rfl⟩,List.forall_mem_cons.2 ⟨⟨Tryz.t77,rfl,by decide⟩,List.forall_mem_cons.2 ⟨⟨Tryz.t25,rfl,by decide⟩,List.forall_mem_cons.2 ⟨⟨Tryz.t2,rfl,by decide⟩,List.forall_mem_cons.2 ⟨⟨Tryz.t78,rfl,by decide⟩,List.forall_mem_cons.2 ⟨⟨Tryz.t83,rfl,by decide⟩,List.forall_mem_cons.2 ⟨⟨Tryz.t84,rfl,by decide⟩,nofun⟩⟩⟩⟩⟩⟩⟩
instance:TIf Tryz.prog 86 (.agg #[(.slice none 0 0),(.slice none 0 0),(.int .i64 0),(.string ByteArray.empty),(.slice none 0 0),(.slice none 0 0),(.slice none 0 0),(.slice none 0 0),(.slice none 0 0),(.slice none 0 0),(.int .i64 0),(.slice none 0 0),(.pointer none),(.map none),(.pointer none),(.int .i64 0),(.pointer none),(.pointer none)]) [(.slice none 0 0),(.slice none 0 0),(.int .i64 0),(.string ByteArray.empty),(.slice none 0 0),(.slice none 0 0),(.slice none 0 0),(.slice none 0 0),(.slice none 0 0),(.slice none 0 0),(.int .i64 0),(.slice none 0 0),(.pointer none),(.map none),(.pointer none),(.int .i64 0),(.pointer none),(.pointer none)] 18 296:=⟨⟨Tryz.t86,rfl,rfl,rfl,rfl⟩,rfl⟩
instance:TSc Tryz.prog 88:=⟨_,Tryz.underlying88,rfl⟩
instance:TSl Tryz.prog 88 137:=⟨Tryz.underlying88⟩
instance:TIf Tryz.prog 88 (.slice none 0 0) [(.slice none 0 0)] 1 24:=⟨⟨Tryz.t88,rfl,rfl,rfl,rfl⟩,rfl⟩
instance:TSt Tryz.prog 90 [(3,0),(88,1)]:=⟨⟨_,Tryz.underlying90,rfl⟩,List.forall_mem_cons.2 ⟨⟨Tryz.t3,rfl,by decide⟩,List.forall_mem_cons.2 ⟨⟨Tryz.t88,rfl,by decide⟩,nofun⟩⟩⟩
instance:TIf Tryz.prog 90 (.agg #[(.int .i64 0),(.slice none 0 0)]) [(.int .i64 0),(.slice none 0 0)] 2 32:=⟨⟨Tryz.t90,rfl,rfl,rfl,rfl⟩,rfl⟩
instance:TSc Tryz.prog 94:=⟨_,Tryz.underlying94,rfl⟩
instance:TPt Tryz.prog 94:=⟨by unfold Program.pointee;rw [Tryz.underlying94]⟩
instance:TIf Tryz.prog 94 (.pointer none) [(.pointer none)] 1 8:=⟨⟨Tryz.t94,rfl,rfl,rfl,rfl⟩,rfl⟩
instance:TSc Tryz.prog 95:=⟨_,Tryz.underlying95,rfl⟩
instance:TPt Tryz.prog 95:=⟨by unfold Program.pointee;rw [Tryz.underlying95]⟩
instance:TIf Tryz.prog 95 (.pointer none) [(.pointer none)] 1 8:=⟨⟨Tryz.t95,rfl,rfl,rfl,rfl⟩,rfl⟩
instance:TSc Tryz.prog 96:=⟨_,Tryz.underlying96,rfl⟩
instance:TSl Tryz.prog 96 101:=⟨Tryz.underlying96⟩
instance:TIf Tryz.prog 96 (.slice none 0 0) [(.slice none 0 0)] 1 24:=⟨⟨Tryz.t96,rfl,rfl,rfl,rfl⟩,rfl⟩
instance:TSt Tryz.prog 98 [(23,0),(23,1),(9,2),(75,3),(96,4)]:=⟨⟨_,Tryz.underlying98,rfl⟩,List.forall_mem_cons.2 ⟨⟨Tryz.t23,rfl,by decide⟩,List.forall_mem_cons.2 ⟨⟨Tryz.t23,rfl,by decide⟩,List.forall_mem_cons.2 ⟨⟨Tryz.t9,rfl,by decide⟩,List.forall_mem_cons.2 ⟨⟨Tryz.t75,rfl,by decide⟩,List.forall_mem_cons.2 ⟨⟨Tryz.t96,rfl,by decide⟩,nofun⟩⟩⟩⟩⟩⟩
instance:TIf Tryz.prog 98 (.agg #[(.slice none 0 0),(.slice none 0 0),(.string ByteArray.empty),(.slice none 0 0),(.slice none 0 0)]) [(.slice none 0 0),(.slice none 0 0),(.string ByteArray.empty),(.slice none 0 0),(.slice none 0 0)] 5 112:=⟨⟨Tryz.t98,rfl,rfl,rfl,rfl⟩,rfl⟩
instance:TSt Tryz.prog 100 [(25,0),(2,5),(95,6)]:=⟨⟨_,Tryz.underlying100,rfl⟩,List.forall_mem_cons.2 ⟨⟨Tryz.t25,rfl,by decide⟩,List.forall_mem_cons.2 ⟨⟨Tryz.t2,rfl,by decide⟩,List.forall_mem_cons.2 ⟨⟨Tryz.t95,rfl,by decide⟩,nofun⟩⟩⟩⟩
instance:TIf Tryz.prog 100 (.agg #[(.slice none 0 0),(.slice none 0 0),(.slice none 0 0),(.slice none 0 0),(.slice none 0 0),(.int .i64 0),(.pointer none)]) [(.slice none 0 0),(.slice none 0 0),(.slice none 0 0),(.slice none 0 0),(.slice none 0 0),(.int .i64 0),(.pointer none)] 7 136:=⟨⟨Tryz.t100,rfl,rfl,rfl,rfl⟩,rfl⟩
instance:TSc Tryz.prog 101:=⟨_,Tryz.underlying101,rfl⟩
instance:TSl Tryz.prog 101 103:=⟨Tryz.underlying101⟩
instance:TIf Tryz.prog 101 (.slice none 0 0) [(.slice none 0 0)] 1 24:=⟨⟨Tryz.t101,rfl,rfl,rfl,rfl⟩,rfl⟩
instance:TSt Tryz.prog 103 [(3,0),(2,1),(9,2),(48,3),(101,4)]:=⟨⟨_,Tryz.underlying103,rfl⟩,List.forall_mem_cons.2 ⟨⟨Tryz.t3,rfl,by decide⟩,List.forall_mem_cons.2 ⟨⟨Tryz.t2,rfl,by decide⟩,List.forall_mem_cons.2 ⟨⟨Tryz.t9,rfl,by decide⟩,List.forall_mem_cons.2 ⟨⟨Tryz.t48,rfl,by decide⟩,List.forall_mem_cons.2 ⟨⟨Tryz.t101,rfl,by decide⟩,nofun⟩⟩⟩⟩⟩⟩
instance:TIf Tryz.prog 103 (.agg #[(.int .i64 0),(.int .i64 0),(.string ByteArray.empty),(.slice none 0 0),(.slice none 0 0)]) [(.int .i64 0),(.int .i64 0),(.string ByteArray.empty),(.slice none 0 0),(.slice none 0 0)] 5 80:=⟨⟨Tryz.t103,rfl,rfl,rfl,rfl⟩,rfl⟩
instance:TSc Tryz.prog 108:=⟨_,Tryz.underlying108,rfl⟩
instance:TPt Tryz.prog 108:=⟨by unfold Program.pointee;rw [Tryz.underlying108]⟩
instance:TIf Tryz.prog 108 (.pointer none) [(.pointer none)] 1 8:=⟨⟨Tryz.t108,rfl,rfl,rfl,rfl⟩,rfl⟩
instance:TSc Tryz.prog 109:=⟨_,Tryz.underlying109,rfl⟩
instance:TMp Tryz.prog 109 3 4:=⟨Tryz.underlying109⟩
instance:TIf Tryz.prog 109 (.map none) [(.map none)] 1 8:=⟨⟨Tryz.t109,rfl,rfl,rfl,rfl⟩,rfl⟩
instance:TSc Tryz.prog 110:=⟨_,Tryz.underlying110,rfl⟩
instance:TSl Tryz.prog 110 109:=⟨Tryz.underlying110⟩
instance:TIf Tryz.prog 110 (.slice none 0 0) [(.slice none 0 0)] 1 24:=⟨⟨Tryz.t110,rfl,rfl,rfl,rfl⟩,rfl⟩
instance:TSt Tryz.prog 112 [(25,0),(44,5),(45,7),(3,8),(109,9),(110,10)]:=⟨⟨_,Tryz.underlying112,rfl⟩,List.forall_mem_cons.2 ⟨⟨Tryz.t25,rfl,by decide⟩,List.forall_mem_cons.2 ⟨⟨Tryz.t44,rfl,by decide⟩,List.forall_mem_cons.2 ⟨⟨Tryz.t45,rfl,by decide⟩,List.forall_mem_cons.2 ⟨⟨Tryz.t3,rfl,by decide⟩,List.forall_mem_cons.2 ⟨⟨Tryz.t109,rfl,by decide⟩,List.forall_mem_cons.2 ⟨⟨Tryz.t110,rfl,by decide⟩,nofun⟩⟩⟩⟩⟩⟩⟩
instance:TIf Tryz.prog 112 (.agg #[(.slice none 0 0),(.slice none 0 0),(.slice none 0 0),(.slice none 0 0),(.slice none 0 0),(.int .i64 0),(.slice none 0 0),(.slice none 0 0),(.int .i64 0),(.map none),(.slice none 0 0)]) [(.slice none 0 0),(.slice none 0 0),(.slice none 0 0),(.slice none 0 0),(.slice none 0 0),(.int .i64 0),(.slice none 0 0),(.slice none 0 0),(.int .i64 0),(.map none),(.slice none 0 0)] 11 216:=⟨⟨Tryz.t112,rfl,rfl,rfl,rfl⟩,rfl⟩
instance:TSc Tryz.prog 123:=⟨_,Tryz.underlying123,rfl⟩
instance:TIf Tryz.prog 123 .nilFunc [.nilFunc] 1 8:=⟨⟨Tryz.t123,rfl,rfl,rfl,rfl⟩,rfl⟩
instance:TSc Tryz.prog 124:=⟨_,Tryz.underlying124,rfl⟩
instance:TPt Tryz.prog 124:=⟨by unfold Program.pointee;rw [Tryz.underlying124]⟩
instance:TIf Tryz.prog 124 (.pointer none) [(.pointer none)] 1 8:=⟨⟨Tryz.t124,rfl,rfl,rfl,rfl⟩,rfl⟩
instance:TSc Tryz.prog 125:=⟨_,Tryz.underlying125,rfl⟩
instance:TMp Tryz.prog 125 3 3:=⟨Tryz.underlying125⟩
instance:TIf Tryz.prog 125 (.map none) [(.map none)] 1 8:=⟨⟨Tryz.t125,rfl,rfl,rfl,rfl⟩,rfl⟩
instance:TSt Tryz.prog 127 [(34,0),(45,5),(3,6),(3,7),(109,8),(109,9),(125,10),(109,11)]:=⟨⟨_,Tryz.underlying127,rfl⟩,List.forall_mem_cons.2 ⟨⟨Tryz.t34,rfl,by decide⟩,List.forall_mem_cons.2 ⟨⟨Tryz.t45,rfl,by decide⟩,List.forall_mem_cons.2 ⟨⟨Tryz.t3,rfl,by decide⟩,List.forall_mem_cons.2 ⟨⟨Tryz.t3,rfl,by decide⟩,List.forall_mem_cons.2 ⟨⟨Tryz.t109,rfl,by decide⟩,List.forall_mem_cons.2 ⟨⟨Tryz.t109,rfl,by decide⟩,List.forall_mem_cons.2 ⟨⟨Tryz.t125,rfl,by decide⟩,List.forall_mem_cons.2 ⟨⟨Tryz.t109,rfl,by decide⟩,nofun⟩⟩⟩⟩⟩⟩⟩⟩⟩
instance:TIf Tryz.prog 127 (.agg #[(.slice none 0 0),(.slice none 0 0),(.slice none 0 0),(.slice none 0 0),(.slice none 0 0),(.slice none 0 0),(.int .i64 0),(.int .i64 0),(.map none),(.map none),(.map none),(.map none)]) [(.slice none 0 0),(.slice none 0 0),(.slice none 0 0),(.slice none 0 0),(.slice none 0 0),(.slice none 0 0),(.int .i64 0),(.int .i64 0),(.map none),(.map none),(.map none),(.map none)] 12 192:=⟨⟨Tryz.t127,rfl,rfl,rfl,rfl⟩,rfl⟩
instance:TSc Tryz.prog 129:=⟨_,Tryz.underlying129,rfl⟩
instance:TPt Tryz.prog 129:=⟨by unfold Program.pointee;rw [Tryz.underlying129]⟩
instance:TIf Tryz.prog 129 (.pointer none) [(.pointer none)] 1 8:=⟨⟨Tryz.t129,rfl,rfl,rfl,rfl⟩,rfl⟩
instance:TSc Tryz.prog 130:=⟨_,Tryz.underlying130,rfl⟩
instance:TSl Tryz.prog 130 134:=⟨Tryz.underlying130⟩
instance:TIf Tryz.prog 130 (.slice none 0 0) [(.slice none 0 0)] 1 24:=⟨⟨Tryz.t130,rfl,rfl,rfl,rfl⟩,rfl⟩
instance:TSc Tryz.prog 131:=⟨_,Tryz.underlying131,rfl⟩
instance:TMp Tryz.prog 131 3 132:=⟨Tryz.underlying131⟩
instance:TIf Tryz.prog 131 (.map none) [(.map none)] 1 8:=⟨⟨Tryz.t131,rfl,rfl,rfl,rfl⟩,rfl⟩
instance:TSc Tryz.prog 132:=⟨_,Tryz.underlying132,rfl⟩
instance:TPt Tryz.prog 132:=⟨by unfold Program.pointee;rw [Tryz.underlying132]⟩
instance:TIf Tryz.prog 132 (.pointer none) [(.pointer none)] 1 8:=⟨⟨Tryz.t132,rfl,rfl,rfl,rfl⟩,rfl⟩
instance:TSt Tryz.prog 134 [(79,0),(80,1),(131,2),(3,3),(132,4),(79,5)]:=⟨⟨_,Tryz.underlying134,rfl⟩,List.forall_mem_cons.2 ⟨⟨Tryz.t79,rfl,by decide⟩,List.forall_mem_cons.2 ⟨⟨Tryz.t80,rfl,by decide⟩,List.forall_mem_cons.2 ⟨⟨Tryz.t131,rfl,by decide⟩,List.forall_mem_cons.2 ⟨⟨Tryz.t3,rfl,by decide⟩,List.forall_mem_cons.2 ⟨⟨Tryz.t132,rfl,by decide⟩,List.forall_mem_cons.2 ⟨⟨Tryz.t79,rfl,by decide⟩,nofun⟩⟩⟩⟩⟩⟩⟩
instance:TIf Tryz.prog 134 (.agg #[(.pointer none),(.map none),(.map none),(.int .i64 0),(.pointer none),(.pointer none)]) [(.pointer none),(.map none),(.map none),(.int .i64 0),(.pointer none),(.pointer none)] 6 48:=⟨⟨Tryz.t134,rfl,rfl,rfl,rfl⟩,rfl⟩
instance:TSt Tryz.prog 136 [(77,0),(34,5),(2,10),(130,11),(134,12),(132,18),(84,19)]:=⟨⟨_,Tryz.underlying136,rfl⟩,List.forall_mem_cons.2 ⟨⟨Tryz.t77,rfl,by decide⟩,List.forall_mem_cons.2 ⟨⟨Tryz.t34,rfl,by decide⟩,List.forall_mem_cons.2 ⟨⟨Tryz.t2,rfl,by decide⟩,List.forall_mem_cons.2 ⟨⟨Tryz.t130,rfl,by decide⟩,List.forall_mem_cons.2 ⟨⟨Tryz.t134,rfl,by decide⟩,List.forall_mem_cons.2 ⟨⟨Tryz.t132,rfl,by decide⟩,List.forall_mem_cons.2 ⟨⟨Tryz.t84,rfl,by decide⟩,nofun⟩⟩⟩⟩⟩⟩⟩⟩
instance:TIf Tryz.prog 136 (.agg #[(.slice none 0 0),(.slice none 0 0),(.int .i64 0),(.string ByteArray.empty),(.slice none 0 0),(.slice none 0 0),(.slice none 0 0),(.slice none 0 0),(.slice none 0 0),(.slice none 0 0),(.int .i64 0),(.slice none 0 0),(.pointer none),(.map none),(.map none),(.int .i64 0),(.pointer none),(.pointer none),(.pointer none),(.pointer none)]) [(.slice none 0 0),(.slice none 0 0),(.int .i64 0),(.string ByteArray.empty),(.slice none 0 0),(.slice none 0 0),(.slice none 0 0),(.slice none 0 0),(.slice none 0 0),(.slice none 0 0),(.int .i64 0),(.slice none 0 0),(.pointer none),(.map none),(.map none),(.int .i64 0),(.pointer none),(.pointer none),(.pointer none),(.pointer none)] 20 312:=⟨⟨Tryz.t136,rfl,rfl,rfl,rfl⟩,rfl⟩
instance:TSc Tryz.prog 137:=⟨_,Tryz.underlying137,rfl⟩
instance:TIf Tryz.prog 137 .nilIface [.nilIface] 1 16:=⟨⟨Tryz.t137,rfl,rfl,rfl,rfl⟩,rfl⟩
instance:TSc Tryz.prog 161:=⟨_,Tryz.underlying161,rfl⟩
instance:TPt Tryz.prog 161:=⟨by unfold Program.pointee;rw [Tryz.underlying161]⟩
instance:TIf Tryz.prog 161 (.pointer none) [(.pointer none)] 1 8:=⟨⟨Tryz.t161,rfl,rfl,rfl,rfl⟩,rfl⟩
instance:TSt Tryz.prog 163 [(34,0),(45,5),(3,6),(3,7),(45,8),(45,9),(4,10)]:=⟨⟨_,Tryz.underlying163,rfl⟩,List.forall_mem_cons.2 ⟨⟨Tryz.t34,rfl,by decide⟩,List.forall_mem_cons.2 ⟨⟨Tryz.t45,rfl,by decide⟩,List.forall_mem_cons.2 ⟨⟨Tryz.t3,rfl,by decide⟩,List.forall_mem_cons.2 ⟨⟨Tryz.t3,rfl,by decide⟩,List.forall_mem_cons.2 ⟨⟨Tryz.t45,rfl,by decide⟩,List.forall_mem_cons.2 ⟨⟨Tryz.t45,rfl,by decide⟩,List.forall_mem_cons.2 ⟨⟨Tryz.t4,rfl,by decide⟩,nofun⟩⟩⟩⟩⟩⟩⟩⟩
instance:TIf Tryz.prog 163 (.agg #[(.slice none 0 0),(.slice none 0 0),(.slice none 0 0),(.slice none 0 0),(.slice none 0 0),(.slice none 0 0),(.int .i64 0),(.int .i64 0),(.slice none 0 0),(.slice none 0 0),(.bool false)]) [(.slice none 0 0),(.slice none 0 0),(.slice none 0 0),(.slice none 0 0),(.slice none 0 0),(.slice none 0 0),(.int .i64 0),(.int .i64 0),(.slice none 0 0),(.slice none 0 0),(.bool false)] 11 216:=⟨⟨Tryz.t163,rfl,rfl,rfl,rfl⟩,rfl⟩
instance:TSc Tryz.prog 165:=⟨_,Tryz.underlying165,rfl⟩
instance:TSl Tryz.prog 165 4:=⟨Tryz.underlying165⟩
instance:TIf Tryz.prog 165 (.slice none 0 0) [(.slice none 0 0)] 1 24:=⟨⟨Tryz.t165,rfl,rfl,rfl,rfl⟩,rfl⟩
instance:TSc Tryz.prog 171:=⟨_,Tryz.underlying171,rfl⟩
instance:TPt Tryz.prog 171:=⟨by unfold Program.pointee;rw [Tryz.underlying171]⟩
instance:TIf Tryz.prog 171 (.pointer none) [(.pointer none)] 1 8:=⟨⟨Tryz.t171,rfl,rfl,rfl,rfl⟩,rfl⟩
instance:TSc Tryz.prog 172:=⟨_,Tryz.underlying172,rfl⟩
instance:TSl Tryz.prog 172 179:=⟨Tryz.underlying172⟩
instance:TIf Tryz.prog 172 (.slice none 0 0) [(.slice none 0 0)] 1 24:=⟨⟨Tryz.t172,rfl,rfl,rfl,rfl⟩,rfl⟩
instance:TSt Tryz.prog 174 [(172,0),(125,1)]:=⟨⟨_,Tryz.underlying174,rfl⟩,List.forall_mem_cons.2 ⟨⟨Tryz.t172,rfl,by decide⟩,List.forall_mem_cons.2 ⟨⟨Tryz.t125,rfl,by decide⟩,nofun⟩⟩⟩
instance:TIf Tryz.prog 174 (.agg #[(.slice none 0 0),(.map none)]) [(.slice none 0 0),(.map none)] 2 32:=⟨⟨Tryz.t174,rfl,rfl,rfl,rfl⟩,rfl⟩
instance:TSt Tryz.prog 179 [(53,0),(3,6)]:=⟨⟨_,Tryz.underlying179,rfl⟩,List.forall_mem_cons.2 ⟨⟨Tryz.t53,rfl,by decide⟩,List.forall_mem_cons.2 ⟨⟨Tryz.t3,rfl,by decide⟩,nofun⟩⟩⟩
instance:TIf Tryz.prog 179 (.agg #[(.slice none 0 0),(.slice none 0 0),(.int .i64 0),(.slice none 0 0),(.slice none 0 0),(.slice none 0 0),(.int .i64 0)]) [(.slice none 0 0),(.slice none 0 0),(.int .i64 0),(.slice none 0 0),(.slice none 0 0),(.slice none 0 0),(.int .i64 0)] 7 136:=⟨⟨Tryz.t179,rfl,rfl,rfl,rfl⟩,rfl⟩
instance:TSt Tryz.prog 183 [(4,0),(4,1),(4,2),(4,3),(4,4),(3,5),(3,6)]:=⟨⟨_,Tryz.underlying183,rfl⟩,List.forall_mem_cons.2 ⟨⟨Tryz.t4,rfl,by decide⟩,List.forall_mem_cons.2 ⟨⟨Tryz.t4,rfl,by decide⟩,List.forall_mem_cons.2 ⟨⟨Tryz.t4,rfl,by decide⟩,List.forall_mem_cons.2 ⟨⟨Tryz.t4,rfl,by decide⟩,List.forall_mem_cons.2 ⟨⟨Tryz.t4,rfl,by decide⟩,List.forall_mem_cons.2 ⟨⟨Tryz.t3,rfl,by decide⟩,List.forall_mem_cons.2 ⟨⟨Tryz.t3,rfl,by decide⟩,nofun⟩⟩⟩⟩⟩⟩⟩⟩
instance:TIf Tryz.prog 183 (.agg #[(.bool false),(.bool false),(.bool false),(.bool false),(.bool false),(.int .i64 0),(.int .i64 0)]) [(.bool false),(.bool false),(.bool false),(.bool false),(.bool false),(.int .i64 0),(.int .i64 0)] 7 24:=⟨⟨Tryz.t183,rfl,rfl,rfl,rfl⟩,rfl⟩
instance:TSc Tryz.prog 190:=⟨_,Tryz.underlying190,rfl⟩
instance:TIf Tryz.prog 190 .nilFunc [.nilFunc] 1 8:=⟨⟨Tryz.t190,rfl,rfl,rfl,rfl⟩,rfl⟩
instance:TSc Tryz.prog 192:=⟨_,Tryz.underlying192,rfl⟩
instance:TPt Tryz.prog 192:=⟨by unfold Program.pointee;rw [Tryz.underlying192]⟩
instance:TIf Tryz.prog 192 (.pointer none) [(.pointer none)] 1 8:=⟨⟨Tryz.t192,rfl,rfl,rfl,rfl⟩,rfl⟩
instance:TSc Tryz.prog 194:=⟨_,Tryz.underlying194,rfl⟩
instance:TPt Tryz.prog 194:=⟨by unfold Program.pointee;rw [Tryz.underlying194]⟩
instance:TIf Tryz.prog 194 (.pointer none) [(.pointer none)] 1 8:=⟨⟨Tryz.t194,rfl,rfl,rfl,rfl⟩,rfl⟩
instance:TSt Tryz.prog 196 [(48,0),(88,1)]:=⟨⟨_,Tryz.underlying196,rfl⟩,List.forall_mem_cons.2 ⟨⟨Tryz.t48,rfl,by decide⟩,List.forall_mem_cons.2 ⟨⟨Tryz.t88,rfl,by decide⟩,nofun⟩⟩⟩
instance:TIf Tryz.prog 196 (.agg #[(.slice none 0 0),(.slice none 0 0)]) [(.slice none 0 0),(.slice none 0 0)] 2 48:=⟨⟨Tryz.t196,rfl,rfl,rfl,rfl⟩,rfl⟩
instance:TSc Tryz.prog 202:=⟨_,Tryz.underlying202,rfl⟩
instance:TPt Tryz.prog 202:=⟨by unfold Program.pointee;rw [Tryz.underlying202]⟩
instance:TIf Tryz.prog 202 (.pointer none) [(.pointer none)] 1 8:=⟨⟨Tryz.t202,rfl,rfl,rfl,rfl⟩,rfl⟩
instance:TSt Tryz.prog 204 [(2,0),(137,1)]:=⟨⟨_,Tryz.underlying204,rfl⟩,List.forall_mem_cons.2 ⟨⟨Tryz.t2,rfl,by decide⟩,List.forall_mem_cons.2 ⟨⟨Tryz.t137,rfl,by decide⟩,nofun⟩⟩⟩
instance:TIf Tryz.prog 204 (.agg #[(.int .i64 0),.nilIface]) [(.int .i64 0),.nilIface] 2 24:=⟨⟨Tryz.t204,rfl,rfl,rfl,rfl⟩,rfl⟩
instance:TSc Tryz.prog 207:=⟨_,Tryz.underlying207,rfl⟩
instance:TIn Tryz.prog 207 .u64:=⟨Tryz.underlying207⟩
instance:TIf Tryz.prog 207 (.int .u64 0) [(.int .u64 0)] 1 8:=⟨⟨Tryz.t207,rfl,rfl,rfl,rfl⟩,rfl⟩
instance:TSt Tryz.prog 211 [(3,0),(103,1)]:=⟨⟨_,Tryz.underlying211,rfl⟩,List.forall_mem_cons.2 ⟨⟨Tryz.t3,rfl,by decide⟩,List.forall_mem_cons.2 ⟨⟨Tryz.t103,rfl,by decide⟩,nofun⟩⟩⟩
instance:TIf Tryz.prog 211 (.agg #[(.int .i64 0),(.int .i64 0),(.int .i64 0),(.string ByteArray.empty),(.slice none 0 0),(.slice none 0 0)]) [(.int .i64 0),(.int .i64 0),(.int .i64 0),(.string ByteArray.empty),(.slice none 0 0),(.slice none 0 0)] 6 88:=⟨⟨Tryz.t211,rfl,rfl,rfl,rfl⟩,rfl⟩
instance:TSc Tryz.prog 212:=⟨_,Tryz.underlying212,rfl⟩
instance:TSl Tryz.prog 212 211:=⟨Tryz.underlying212⟩
instance:TIf Tryz.prog 212 (.slice none 0 0) [(.slice none 0 0)] 1 24:=⟨⟨Tryz.t212,rfl,rfl,rfl,rfl⟩,rfl⟩
instance:TIf Tryz.prog 217 (.agg #[(.int .i64 0),(.int .i64 0)]) [(.int .i64 0),(.int .i64 0)] 2 16:=⟨⟨Tryz.t217,rfl,rfl,rfl,rfl⟩,rfl⟩
instance:TSc Tryz.prog 218:=⟨_,Tryz.underlying218,rfl⟩
instance:TMp Tryz.prog 218 3 217:=⟨Tryz.underlying218⟩
instance:TIf Tryz.prog 218 (.map none) [(.map none)] 1 8:=⟨⟨Tryz.t218,rfl,rfl,rfl,rfl⟩,rfl⟩
instance:TSc Tryz.prog 220:=⟨_,Tryz.underlying220,rfl⟩
instance:TSl Tryz.prog 220 225:=⟨Tryz.underlying220⟩
instance:TIf Tryz.prog 220 (.slice none 0 0) [(.slice none 0 0)] 1 24:=⟨⟨Tryz.t220,rfl,rfl,rfl,rfl⟩,rfl⟩
instance:TSt Tryz.prog 225 [(3,0),(3,1)]:=⟨⟨_,Tryz.underlying225,rfl⟩,List.forall_mem_cons.2 ⟨⟨Tryz.t3,rfl,by decide⟩,List.forall_mem_cons.2 ⟨⟨Tryz.t3,rfl,by decide⟩,nofun⟩⟩⟩
instance:TIf Tryz.prog 225 (.agg #[(.int .i64 0),(.int .i64 0)]) [(.int .i64 0),(.int .i64 0)] 2 16:=⟨⟨Tryz.t225,rfl,rfl,rfl,rfl⟩,rfl⟩
instance:TSc Tryz.prog 228:=⟨_,Tryz.underlying228,rfl⟩
instance:TIf Tryz.prog 228 .nilFunc [.nilFunc] 1 8:=⟨⟨Tryz.t228,rfl,rfl,rfl,rfl⟩,rfl⟩
instance:TSc Tryz.prog 232:=⟨_,Tryz.underlying232,rfl⟩
instance:TPt Tryz.prog 232:=⟨by unfold Program.pointee;rw [Tryz.underlying232]⟩
instance:TIf Tryz.prog 232 (.pointer none) [(.pointer none)] 1 8:=⟨⟨Tryz.t232,rfl,rfl,rfl,rfl⟩,rfl⟩
instance:TSt Tryz.prog 234 [(137,0)]:=⟨⟨_,Tryz.underlying234,rfl⟩,List.forall_mem_cons.2 ⟨⟨Tryz.t137,rfl,by decide⟩,nofun⟩⟩
instance:TIf Tryz.prog 234 (.agg #[.nilIface]) [.nilIface] 1 16:=⟨⟨Tryz.t234,rfl,rfl,rfl,rfl⟩,rfl⟩
instance:TSc Tryz.prog 243:=⟨_,Tryz.underlying243,rfl⟩
instance:TPt Tryz.prog 243:=⟨by unfold Program.pointee;rw [Tryz.underlying243]⟩
instance:TIf Tryz.prog 243 (.pointer none) [(.pointer none)] 1 8:=⟨⟨Tryz.t243,rfl,rfl,rfl,rfl⟩,rfl⟩
instance:TSt Tryz.prog 246 [(88,0)]:=⟨⟨_,Tryz.underlying246,rfl⟩,List.forall_mem_cons.2 ⟨⟨Tryz.t88,rfl,by decide⟩,nofun⟩⟩
instance:TIf Tryz.prog 246 (.agg #[(.slice none 0 0)]) [(.slice none 0 0)] 1 24:=⟨⟨Tryz.t246,rfl,rfl,rfl,rfl⟩,rfl⟩
instance:TSc Tryz.prog 249:=⟨_,Tryz.underlying249,rfl⟩
instance:TIf Tryz.prog 249 .nilFunc [.nilFunc] 1 8:=⟨⟨Tryz.t249,rfl,rfl,rfl,rfl⟩,rfl⟩
instance:TSc Tryz.prog 251:=⟨_,Tryz.underlying251,rfl⟩
instance:TMp Tryz.prog 251 3 249:=⟨Tryz.underlying251⟩
instance:TIf Tryz.prog 251 (.map none) [(.map none)] 1 8:=⟨⟨Tryz.t251,rfl,rfl,rfl,rfl⟩,rfl⟩
instance:TSc Tryz.prog 254:=⟨_,Tryz.underlying254,rfl⟩
instance:TPt Tryz.prog 254:=⟨by unfold Program.pointee;rw [Tryz.underlying254]⟩
instance:TIf Tryz.prog 254 (.pointer none) [(.pointer none)] 1 8:=⟨⟨Tryz.t254,rfl,rfl,rfl,rfl⟩,rfl⟩
instance:TSt Tryz.prog 256 [(254,0),(75,1)]:=⟨⟨_,Tryz.underlying256,rfl⟩,List.forall_mem_cons.2 ⟨⟨Tryz.t254,rfl,by decide⟩,List.forall_mem_cons.2 ⟨⟨Tryz.t75,rfl,by decide⟩,nofun⟩⟩⟩
instance:TIf Tryz.prog 256 (.agg #[(.pointer none),(.slice none 0 0)]) [(.pointer none),(.slice none 0 0)] 2 32:=⟨⟨Tryz.t256,rfl,rfl,rfl,rfl⟩,rfl⟩
instance:TSc Tryz.prog 258:=⟨_,Tryz.underlying258,rfl⟩
instance:TIf Tryz.prog 258 .nilIface [.nilIface] 1 16:=⟨⟨Tryz.t258,rfl,rfl,rfl,rfl⟩,rfl⟩
instance:TSc Tryz.prog 269:=⟨_,Tryz.underlying269,rfl⟩
instance:TPt Tryz.prog 269:=⟨by unfold Program.pointee;rw [Tryz.underlying269]⟩
instance:TIf Tryz.prog 269 (.pointer none) [(.pointer none)] 1 8:=⟨⟨Tryz.t269,rfl,rfl,rfl,rfl⟩,rfl⟩
instance:TSc Tryz.prog 273:=⟨_,Tryz.underlying273,rfl⟩
instance:TIn Tryz.prog 273 .u32:=⟨Tryz.underlying273⟩
instance:TIf Tryz.prog 273 (.int .u32 0) [(.int .u32 0)] 1 4:=⟨⟨Tryz.t273,rfl,rfl,rfl,rfl⟩,rfl⟩
instance:TSc Tryz.prog 276:=⟨_,Tryz.underlying276,rfl⟩
instance:TIn Tryz.prog 276 .u64:=⟨Tryz.underlying276⟩
instance:TIf Tryz.prog 276 (.int .u64 0) [(.int .u64 0)] 1 8:=⟨⟨Tryz.t276,rfl,rfl,rfl,rfl⟩,rfl⟩
instance:TIf Tryz.prog 280 (.agg #[(.int .u8 0),(.int .u8 0),(.int .u8 0),(.int .u8 0),(.int .u8 0),(.int .u8 0),(.int .u8 0),(.int .u8 0),(.int .u8 0),(.int .u8 0),(.int .u8 0),(.int .u8 0),(.int .u8 0),(.int .u8 0),(.int .u8 0),(.int .u8 0),(.int .u8 0),(.int .u8 0),(.int .u8 0),(.int .u8 0),(.int .u8 0),(.int .u8 0),(.int .u8 0),(.int .u8 0)]) [(.int .u8 0),(.int .u8 0),(.int .u8 0),(.int .u8 0),(.int .u8 0),(.int .u8 0),(.int .u8 0),(.int .u8 0),(.int .u8 0),(.int .u8 0),(.int .u8 0),(.int .u8 0),(.int .u8 0),(.int .u8 0),(.int .u8 0),(.int .u8 0),(.int .u8 0),(.int .u8 0),(.int .u8 0),(.int .u8 0),(.int .u8 0),(.int .u8 0),(.int .u8 0),(.int .u8 0)] 24 24:=⟨⟨Tryz.t280,rfl,rfl,rfl,rfl⟩,rfl⟩
instance:TIf Tryz.prog 288 (.agg #[(.int .u64 0),(.int .u64 0),(.int .u64 0),(.int .u64 0),(.int .u64 0),(.int .u64 0),(.int .u64 0),(.int .u64 0),(.int .u64 0),(.int .u64 0),(.int .u64 0),(.int .u64 0),(.int .u64 0),(.int .u64 0),(.int .u64 0),(.int .u64 0),(.int .u64 0),(.int .u64 0),(.int .u64 0),(.int .u64 0)]) [(.int .u64 0),(.int .u64 0),(.int .u64 0),(.int .u64 0),(.int .u64 0),(.int .u64 0),(.int .u64 0),(.int .u64 0),(.int .u64 0),(.int .u64 0),(.int .u64 0),(.int .u64 0),(.int .u64 0),(.int .u64 0),(.int .u64 0),(.int .u64 0),(.int .u64 0),(.int .u64 0),(.int .u64 0),(.int .u64 0)] 20 160:=⟨⟨Tryz.t288,rfl,rfl,rfl,rfl⟩,rfl⟩
instance:TIf Tryz.prog 292 (.agg #[(.int .u8 0),(.int .u8 0),(.int .u8 0),(.int .u8 0),(.int .u8 0),(.int .u8 0),(.int .u8 0),(.int .u8 0),(.int .u8 0),(.int .u8 0),(.int .u8 0),(.int .u8 0),(.int .u8 0),(.int .u8 0),(.int .u8 0),(.int .u8 0),(.int .u8 0),(.int .u8 0),(.int .u8 0),(.int .u8 0),(.int .u8 0),(.int .u8 0),(.int .u8 0),(.int .u8 0),(.int .u8 0),(.int .u8 0),(.int .u8 0),(.int .u8 0),(.int .u8 0),(.int .u8 0),(.int .u8 0),(.int .u8 0)]) [(.int .u8 0),(.int .u8 0),(.int .u8 0),(.int .u8 0),(.int .u8 0),(.int .u8 0),(.int .u8 0),(.int .u8 0),(.int .u8 0),(.int .u8 0),(.int .u8 0),(.int .u8 0),(.int .u8 0),(.int .u8 0),(.int .u8 0),(.int .u8 0),(.int .u8 0),(.int .u8 0),(.int .u8 0),(.int .u8 0),(.int .u8 0),(.int .u8 0),(.int .u8 0),(.int .u8 0),(.int .u8 0),(.int .u8 0),(.int .u8 0),(.int .u8 0),(.int .u8 0),(.int .u8 0),(.int .u8 0),(.int .u8 0)] 32 32:=⟨⟨Tryz.t292,rfl,rfl,rfl,rfl⟩,rfl⟩
instance:FnB Tryz.prog 2:=⟨_,Tryz.func2,rfl,by kernel_rfl⟩
instance:FnB Tryz.prog 3:=⟨_,Tryz.func3,rfl,by kernel_rfl⟩
instance:FnB Tryz.prog 4:=⟨_,Tryz.func4,rfl,by kernel_rfl⟩
instance:FnB Tryz.prog 5:=⟨_,Tryz.func5,rfl,by kernel_rfl⟩
instance:FnB Tryz.prog 6:=⟨_,Tryz.func6,rfl,by kernel_rfl⟩
instance:FnB Tryz.prog 7:=⟨_,Tryz.func7,rfl,by kernel_rfl⟩
instance:FnB Tryz.prog 8:=⟨_,Tryz.func8,rfl,by kernel_rfl⟩
instance:FnB Tryz.prog 9:=⟨_,Tryz.func9,rfl,by kernel_rfl⟩
instance:FnB Tryz.prog 10:=⟨_,Tryz.func10,rfl,by kernel_rfl⟩
instance:FnB Tryz.prog 11:=⟨_,Tryz.func11,rfl,by kernel_rfl⟩
instance:FnB Tryz.prog 12:=⟨_,Tryz.func12,rfl,by kernel_rfl⟩
instance:FnB Tryz.prog 13:=⟨_,Tryz.func13,rfl,by kernel_rfl⟩
instance:FnB Tryz.prog 14:=⟨_,Tryz.func14,rfl,by kernel_rfl⟩
instance:FnB Tryz.prog 15:=⟨_,Tryz.func15,rfl,by kernel_rfl⟩
instance:FnB Tryz.prog 16:=⟨_,Tryz.func16,rfl,by kernel_rfl⟩
instance:FnB Tryz.prog 17:=⟨_,Tryz.func17,rfl,by kernel_rfl⟩
instance:FnB Tryz.prog 18:=⟨_,Tryz.func18,rfl,by kernel_rfl⟩
instance:FnB Tryz.prog 19:=⟨_,Tryz.func19,rfl,by kernel_rfl⟩
instance:FnB Tryz.prog 20:=⟨_,Tryz.func20,rfl,by kernel_rfl⟩
instance:FnB Tryz.prog 21:=⟨_,Tryz.func21,rfl,by kernel_rfl⟩
instance:FnB Tryz.prog 22:=⟨_,Tryz.func22,rfl,by kernel_rfl⟩
instance:FnB Tryz.prog 23:=⟨_,Tryz.func23,rfl,by kernel_rfl⟩
instance:FnB Tryz.prog 24:=⟨_,Tryz.func24,rfl,by kernel_rfl⟩
instance:FnB Tryz.prog 25:=⟨_,Tryz.func25,rfl,by kernel_rfl⟩
instance:FnB Tryz.prog 26:=⟨_,Tryz.func26,rfl,by kernel_rfl⟩
instance:FnB Tryz.prog 27:=⟨_,Tryz.func27,rfl,by kernel_rfl⟩
instance:FnB Tryz.prog 28:=⟨_,Tryz.func28,rfl,by kernel_rfl⟩
instance:FnB Tryz.prog 29:=⟨_,Tryz.func29,rfl,by kernel_rfl⟩
instance:FnB Tryz.prog 30:=⟨_,Tryz.func30,rfl,by kernel_rfl⟩
instance:FnB Tryz.prog 31:=⟨_,Tryz.func31,rfl,by kernel_rfl⟩
instance:FnB Tryz.prog 32:=⟨_,Tryz.func32,rfl,by kernel_rfl⟩
instance:FnB Tryz.prog 33:=⟨_,Tryz.func33,rfl,by kernel_rfl⟩
instance:FnB Tryz.prog 34:=⟨_,Tryz.func34,rfl,by kernel_rfl⟩
instance:FnB Tryz.prog 35:=⟨_,Tryz.func35,rfl,by kernel_rfl⟩
instance:FnB Tryz.prog 36:=⟨_,Tryz.func36,rfl,by kernel_rfl⟩
instance:FnB Tryz.prog 37:=⟨_,Tryz.func37,rfl,by kernel_rfl⟩
instance:FnB Tryz.prog 38:=⟨_,Tryz.func38,rfl,by kernel_rfl⟩
instance:FnB Tryz.prog 39:=⟨_,Tryz.func39,rfl,by kernel_rfl⟩
instance:FnB Tryz.prog 40:=⟨_,Tryz.func40,rfl,by kernel_rfl⟩
instance:FnB Tryz.prog 41:=⟨_,Tryz.func41,rfl,by kernel_rfl⟩
instance:FnB Tryz.prog 42:=⟨_,Tryz.func42,rfl,by kernel_rfl⟩
instance:FnB Tryz.prog 43:=⟨_,Tryz.func43,rfl,by kernel_rfl⟩
instance:FnB Tryz.prog 44:=⟨_,Tryz.func44,rfl,by kernel_rfl⟩
instance:FnB Tryz.prog 45:=⟨_,Tryz.func45,rfl,by kernel_rfl⟩
instance:FnB Tryz.prog 46:=⟨_,Tryz.func46,rfl,by kernel_rfl⟩
instance:FnB Tryz.prog 47:=⟨_,Tryz.func47,rfl,by kernel_rfl⟩
instance:FnB Tryz.prog 48:=⟨_,Tryz.func48,rfl,by kernel_rfl⟩
instance:FnB Tryz.prog 49:=⟨_,Tryz.func49,rfl,by kernel_rfl⟩
instance:FnB Tryz.prog 50:=⟨_,Tryz.func50,rfl,by kernel_rfl⟩
instance:FnB Tryz.prog 51:=⟨_,Tryz.func51,rfl,by kernel_rfl⟩
instance:FnB Tryz.prog 52:=⟨_,Tryz.func52,rfl,by kernel_rfl⟩
instance:FnB Tryz.prog 53:=⟨_,Tryz.func53,rfl,by kernel_rfl⟩
instance:FnB Tryz.prog 54:=⟨_,Tryz.func54,rfl,by kernel_rfl⟩
instance:FnB Tryz.prog 55:=⟨_,Tryz.func55,rfl,by kernel_rfl⟩
instance:FnB Tryz.prog 56:=⟨_,Tryz.func56,rfl,by kernel_rfl⟩
instance:FnB Tryz.prog 57:=⟨_,Tryz.func57,rfl,by kernel_rfl⟩
instance:FnB Tryz.prog 58:=⟨_,Tryz.func58,rfl,by kernel_rfl⟩
instance:FnB Tryz.prog 59:=⟨_,Tryz.func59,rfl,by kernel_rfl⟩
instance:FnB Tryz.prog 60:=⟨_,Tryz.func60,rfl,by kernel_rfl⟩
instance:FnB Tryz.prog 61:=⟨_,Tryz.func61,rfl,by kernel_rfl⟩
instance:FnB Tryz.prog 62:=⟨_,Tryz.func62,rfl,by kernel_rfl⟩
instance:FnB Tryz.prog 63:=⟨_,Tryz.func63,rfl,by kernel_rfl⟩
instance:FnB Tryz.prog 64:=⟨_,Tryz.func64,rfl,by kernel_rfl⟩
instance:FnB Tryz.prog 65:=⟨_,Tryz.func65,rfl,by kernel_rfl⟩
instance:FnB Tryz.prog 66:=⟨_,Tryz.func66,rfl,by kernel_rfl⟩
instance:FnB Tryz.prog 67:=⟨_,Tryz.func67,rfl,by kernel_rfl⟩
instance:FnB Tryz.prog 68:=⟨_,Tryz.func68,rfl,by kernel_rfl⟩
instance:FnB Tryz.prog 69:=⟨_,Tryz.func69,rfl,by kernel_rfl⟩
instance:FnB Tryz.prog 70:=⟨_,Tryz.func70,rfl,by kernel_rfl⟩
instance:FnB Tryz.prog 71:=⟨_,Tryz.func71,rfl,by kernel_rfl⟩
instance:FnB Tryz.prog 72:=⟨_,Tryz.func72,rfl,by kernel_rfl⟩
instance:FnB Tryz.prog 73:=⟨_,Tryz.func73,rfl,by kernel_rfl⟩
instance:FnB Tryz.prog 74:=⟨_,Tryz.func74,rfl,by kernel_rfl⟩
instance:FnB Tryz.prog 75:=⟨_,Tryz.func75,rfl,by kernel_rfl⟩
instance:FnB Tryz.prog 76:=⟨_,Tryz.func76,rfl,by kernel_rfl⟩
instance:FnB Tryz.prog 77:=⟨_,Tryz.func77,rfl,by kernel_rfl⟩
instance:FnB Tryz.prog 78:=⟨_,Tryz.func78,rfl,by kernel_rfl⟩
instance:FnB Tryz.prog 79:=⟨_,Tryz.func79,rfl,by kernel_rfl⟩
instance:FnB Tryz.prog 80:=⟨_,Tryz.func80,rfl,by kernel_rfl⟩
instance:FnB Tryz.prog 81:=⟨_,Tryz.func81,rfl,by kernel_rfl⟩
instance:FnB Tryz.prog 82:=⟨_,Tryz.func82,rfl,by kernel_rfl⟩
instance:FnB Tryz.prog 83:=⟨_,Tryz.func83,rfl,by kernel_rfl⟩
instance:FnB Tryz.prog 84:=⟨_,Tryz.func84,rfl,by kernel_rfl⟩
instance:FnB Tryz.prog 85:=⟨_,Tryz.func85,rfl,by kernel_rfl⟩
instance:FnB Tryz.prog 86:=⟨_,Tryz.func86,rfl,by kernel_rfl⟩
instance:FnB Tryz.prog 87:=⟨_,Tryz.func87,rfl,by kernel_rfl⟩
instance:FnB Tryz.prog 88:=⟨_,Tryz.func88,rfl,by kernel_rfl⟩
instance:FnB Tryz.prog 89:=⟨_,Tryz.func89,rfl,by kernel_rfl⟩
instance:FnB Tryz.prog 90:=⟨_,Tryz.func90,rfl,by kernel_rfl⟩
instance:FnB Tryz.prog 91:=⟨_,Tryz.func91,rfl,by kernel_rfl⟩
instance:FnB Tryz.prog 92:=⟨_,Tryz.func92,rfl,by kernel_rfl⟩
instance:FnB Tryz.prog 93:=⟨_,Tryz.func93,rfl,by kernel_rfl⟩
instance:FnB Tryz.prog 94:=⟨_,Tryz.func94,rfl,by kernel_rfl⟩
instance:FnB Tryz.prog 95:=⟨_,Tryz.func95,rfl,by kernel_rfl⟩
instance:FnB Tryz.prog 96:=⟨_,Tryz.func96,rfl,by kernel_rfl⟩
instance:FnB Tryz.prog 97:=⟨_,Tryz.func97,rfl,by kernel_rfl⟩
instance:FnB Tryz.prog 98:=⟨_,Tryz.func98,rfl,by kernel_rfl⟩
instance:FnB Tryz.prog 99:=⟨_,Tryz.func99,rfl,by kernel_rfl⟩
instance:FnB Tryz.prog 100:=⟨_,Tryz.func100,rfl,by kernel_rfl⟩
instance:FnB Tryz.prog 101:=⟨_,Tryz.func101,rfl,by kernel_rfl⟩
instance:FnB Tryz.prog 102:=⟨_,Tryz.func102,rfl,by kernel_rfl⟩
instance:FnB Tryz.prog 103:=⟨_,Tryz.func103,rfl,by kernel_rfl⟩
instance:FnB Tryz.prog 104:=⟨_,Tryz.func104,rfl,by kernel_rfl⟩
instance:FnB Tryz.prog 105:=⟨_,Tryz.func105,rfl,by kernel_rfl⟩
instance:FnB Tryz.prog 106:=⟨_,Tryz.func106,rfl,by kernel_rfl⟩
instance:FnB Tryz.prog 107:=⟨_,Tryz.func107,rfl,by kernel_rfl⟩
instance:FnB Tryz.prog 108:=⟨_,Tryz.func108,rfl,by kernel_rfl⟩
instance:FnB Tryz.prog 109:=⟨_,Tryz.func109,rfl,by kernel_rfl⟩
instance:FnB Tryz.prog 110:=⟨_,Tryz.func110,rfl,by kernel_rfl⟩
instance:FnB Tryz.prog 111:=⟨_,Tryz.func111,rfl,by kernel_rfl⟩
instance:FnB Tryz.prog 112:=⟨_,Tryz.func112,rfl,by kernel_rfl⟩
instance:FnB Tryz.prog 113:=⟨_,Tryz.func113,rfl,by kernel_rfl⟩
instance:FnB Tryz.prog 114:=⟨_,Tryz.func114,rfl,by kernel_rfl⟩
instance:FnB Tryz.prog 115:=⟨_,Tryz.func115,rfl,by kernel_rfl⟩
instance:FnB Tryz.prog 116:=⟨_,Tryz.func116,rfl,by kernel_rfl⟩
instance:FnB Tryz.prog 117:=⟨_,Tryz.func117,rfl,by kernel_rfl⟩
instance:FnB Tryz.prog 119:=⟨_,Tryz.func119,rfl,by kernel_rfl⟩
instance:FnB Tryz.prog 121:=⟨_,Tryz.func121,rfl,by kernel_rfl⟩
instance:FnB Tryz.prog 122:=⟨_,Tryz.func122,rfl,by kernel_rfl⟩
instance:FnB Tryz.prog 123:=⟨_,Tryz.func123,rfl,by kernel_rfl⟩
instance:FnB Tryz.prog 124:=⟨_,Tryz.func124,rfl,by kernel_rfl⟩
instance:FnB Tryz.prog 125:=⟨_,Tryz.func125,rfl,by kernel_rfl⟩
instance:FnB Tryz.prog 126:=⟨_,Tryz.func126,rfl,by kernel_rfl⟩
instance:FnB Tryz.prog 127:=⟨_,Tryz.func127,rfl,by kernel_rfl⟩
instance:FnB Tryz.prog 128:=⟨_,Tryz.func128,rfl,by kernel_rfl⟩
instance:FnB Tryz.prog 129:=⟨_,Tryz.func129,rfl,by kernel_rfl⟩
instance:FnB Tryz.prog 130:=⟨_,Tryz.func130,rfl,by kernel_rfl⟩
instance:FnB Tryz.prog 131:=⟨_,Tryz.func131,rfl,by kernel_rfl⟩
instance:FnB Tryz.prog 132:=⟨_,Tryz.func132,rfl,by kernel_rfl⟩
instance:FnB Tryz.prog 133:=⟨_,Tryz.func133,rfl,by kernel_rfl⟩
instance:FnB Tryz.prog 134:=⟨_,Tryz.func134,rfl,by kernel_rfl⟩
instance:FnB Tryz.prog 135:=⟨_,Tryz.func135,rfl,by kernel_rfl⟩
instance:FnB Tryz.prog 136:=⟨_,Tryz.func136,rfl,by kernel_rfl⟩
instance:FnB Tryz.prog 137:=⟨_,Tryz.func137,rfl,by kernel_rfl⟩
instance:FnB Tryz.prog 138:=⟨_,Tryz.func138,rfl,by kernel_rfl⟩
instance:FnB Tryz.prog 139:=⟨_,Tryz.func139,rfl,by kernel_rfl⟩
instance:FnB Tryz.prog 140:=⟨_,Tryz.func140,rfl,by kernel_rfl⟩
instance:FnB Tryz.prog 141:=⟨_,Tryz.func141,rfl,by kernel_rfl⟩
instance:FnB Tryz.prog 142:=⟨_,Tryz.func142,rfl,by kernel_rfl⟩
instance:FnB Tryz.prog 143:=⟨_,Tryz.func143,rfl,by kernel_rfl⟩
instance:FnB Tryz.prog 144:=⟨_,Tryz.func144,rfl,by kernel_rfl⟩
instance:FnB Tryz.prog 145:=⟨_,Tryz.func145,rfl,by kernel_rfl⟩
instance:FnB Tryz.prog 146:=⟨_,Tryz.func146,rfl,by kernel_rfl⟩
instance:FnB Tryz.prog 147:=⟨_,Tryz.func147,rfl,by kernel_rfl⟩
instance:FnB Tryz.prog 148:=⟨_,Tryz.func148,rfl,by kernel_rfl⟩
instance:FnB Tryz.prog 149:=⟨_,Tryz.func149,rfl,by kernel_rfl⟩
instance:FnB Tryz.prog 150:=⟨_,Tryz.func150,rfl,by kernel_rfl⟩
instance:FnB Tryz.prog 151:=⟨_,Tryz.func151,rfl,by kernel_rfl⟩
instance:FnB Tryz.prog 152:=⟨_,Tryz.func152,rfl,by kernel_rfl⟩
instance:FnB Tryz.prog 153:=⟨_,Tryz.func153,rfl,by kernel_rfl⟩
instance:FnB Tryz.prog 154:=⟨_,Tryz.func154,rfl,by kernel_rfl⟩
instance:FnB Tryz.prog 155:=⟨_,Tryz.func155,rfl,by kernel_rfl⟩
instance:FnB Tryz.prog 156:=⟨_,Tryz.func156,rfl,by kernel_rfl⟩
instance:FnB Tryz.prog 157:=⟨_,Tryz.func157,rfl,by kernel_rfl⟩
instance:FnB Tryz.prog 158:=⟨_,Tryz.func158,rfl,by kernel_rfl⟩
instance:FnB Tryz.prog 159:=⟨_,Tryz.func159,rfl,by kernel_rfl⟩
instance:FnB Tryz.prog 160:=⟨_,Tryz.func160,rfl,by kernel_rfl⟩
instance:FnB Tryz.prog 161:=⟨_,Tryz.func161,rfl,by kernel_rfl⟩
instance:FnB Tryz.prog 162:=⟨_,Tryz.func162,rfl,by kernel_rfl⟩
instance:FnB Tryz.prog 163:=⟨_,Tryz.func163,rfl,by kernel_rfl⟩
instance:FnB Tryz.prog 164:=⟨_,Tryz.func164,rfl,by kernel_rfl⟩
instance:FnB Tryz.prog 165:=⟨_,Tryz.func165,rfl,by kernel_rfl⟩
instance:FnB Tryz.prog 167:=⟨_,Tryz.func167,rfl,by kernel_rfl⟩
instance:FnB Tryz.prog 168:=⟨_,Tryz.func168,rfl,by kernel_rfl⟩
instance:FnB Tryz.prog 169:=⟨_,Tryz.func169,rfl,by kernel_rfl⟩
instance:FnB Tryz.prog 170:=⟨_,Tryz.func170,rfl,by kernel_rfl⟩
instance:FnB Tryz.prog 171:=⟨_,Tryz.func171,rfl,by kernel_rfl⟩
instance:FnB Tryz.prog 172:=⟨_,Tryz.func172,rfl,by kernel_rfl⟩
instance:FnB Tryz.prog 173:=⟨_,Tryz.func173,rfl,by kernel_rfl⟩
instance:FnB Tryz.prog 174:=⟨_,Tryz.func174,rfl,by kernel_rfl⟩
instance:FnB Tryz.prog 175:=⟨_,Tryz.func175,rfl,by kernel_rfl⟩
instance:FnB Tryz.prog 176:=⟨_,Tryz.func176,rfl,by kernel_rfl⟩
instance:FnB Tryz.prog 199:=⟨_,Tryz.func199,rfl,by kernel_rfl⟩
theorem mixed:Tryz.prog.follows .mixedOrders=true:=by kernel_rfl
set_option linter.unusedVariables false
structure Vec (α:Type) where
  o:Option Addr
  c:Nat
  l:List α
structure Atm where
  k:Int
  n:Int
structure Stp where
  k:Int
  n:Int
  ns:Vec Int
  a:Vec Atm
structure Ins where
  x:Int
  r:Stp
structure Edg where
  b:Int
  a:Vec Atm
structure En where
  k:Int
  a:Vec Atm
  ns:Vec Int
  to:Vec Edg
structure Blc where
  ps:Vec Int
  is:Vec Ins
  e:En
structure Gr where
  caps:Int
  bs:Vec Blc
structure Grs where
  fs:Vec Gr
  ls:Vec ByteArray
  ts:Vec ByteArray
  xs:Vec ByteArray
  ss:Vec ByteArray
def nilV {α:Type}:Vec α:=⟨none,0,[]⟩
def blc0:Blc:=⟨nilV,nilV,⟨0,nilV,nilV,nilV⟩⟩
def encX (s:ByteArray):List Value:=[.string s]
def encAt (a:Atm):List Value:=[.int .i64 a.k,.int .i64 a.n]
def encSt (r:Stp):List Value:=[.int .i64 r.k,.int .i64 r.n,.slice r.ns.o r.ns.l.length r.ns.c,.slice r.a.o r.a.l.length r.a.c]
def encIn (i:Ins):List Value:=[.int .i64 i.x,.int .i64 i.r.k,.int .i64 i.r.n,.slice i.r.ns.o i.r.ns.l.length i.r.ns.c,.slice i.r.a.o i.r.a.l.length i.r.a.c]
def encEd (e:Edg):List Value:=[.int .i64 e.b,.slice e.a.o e.a.l.length e.a.c]
def encEn (e:En):List Value:=[.int .i64 e.k,.slice e.a.o e.a.l.length e.a.c,.slice e.ns.o e.ns.l.length e.ns.c,.slice e.to.o e.to.l.length e.to.c]
def encBl (b:Blc):List Value:=[.slice b.ps.o b.ps.l.length b.ps.c,.slice b.is.o b.is.l.length b.is.c,.int .i64 b.e.k,.slice b.e.a.o b.e.a.l.length b.e.a.c,.slice b.e.ns.o b.e.ns.l.length b.e.ns.c,.slice b.e.to.o b.e.to.l.length b.e.to.c]
def encG (g:Gr):List Value:=[.int .i64 g.caps,.slice g.bs.o g.bs.l.length g.bs.c]
def encGs (g:Grs):List Value:=[.slice g.fs.o g.fs.l.length g.fs.c,.slice g.ls.o g.ls.l.length g.ls.c,.slice g.ts.o g.ts.l.length g.ts.c,.slice g.xs.o g.xs.l.length g.xs.c,.slice g.ss.o g.ss.l.length g.ss.c]
theorem encX_len (s:ByteArray):(encX s).length=1:=rfl
theorem encAt_len (a:Atm):(encAt a).length=2:=rfl
theorem encIn_len (i:Ins):(encIn i).length=5:=rfl
theorem encEd_len (e:Edg):(encEd e).length=2:=rfl
theorem encBl_len (b:Blc):(encBl b).length=6:=rfl
theorem encG_len (g:Gr):(encG g).length=2:=rfl
def RdV {α:Type} (w:World) (enc:α→List Value) (v:Vec α):Prop:=Rd w v.o (flat enc v.l)∧v.l.length≤v.c∧v.c≤maxLen
theorem RdV.keep {α:Type} {w w':World} {enc:α→List Value} {v:Vec α} (h:RdV w enc v) (hk:Kp w noM w'):RdV w' enc v:=⟨((HS.init w noM).keep hk).rd h.1 id,h.2⟩
theorem RdV.le {α:Type} {w:World} {enc:α→List Value} {v:Vec α} (h:RdV w enc v):v.l.length≤9223372036854775807:=by
  have h1:=h.2
  unfold maxLen at h1
  omega
def RdIn (w:World) (i:Ins):Prop:=RdV w Fw.encI i.r.ns∧RdV w encAt i.r.a
def RdEn (w:World) (e:En):Prop:=RdV w encAt e.a∧RdV w Fw.encI e.ns∧RdV w encEd e.to∧∀x∈e.to.l,RdV w encAt x.a
def RdBl (w:World) (b:Blc):Prop:=RdV w Fw.encI b.ps∧RdV w encIn b.is∧(∀i∈b.is.l,RdIn w i)∧RdEn w b.e
def RdG (w:World) (g:Gr):Prop:=RdV w encBl g.bs∧∀b∈g.bs.l,RdBl w b
def RdGs (w:World) (g:Grs):Prop:=RdV w encG g.fs∧(∀x∈g.fs.l,RdG w x)∧RdV w encX g.ls∧RdV w encX g.ts∧RdV w encX g.xs∧RdV w encX g.ss
theorem RdIn.keep {w w':World} {i:Ins} (h:RdIn w i) (hk:Kp w noM w'):RdIn w' i:=⟨h.1.keep hk,h.2.keep hk⟩
theorem RdEn.keep {w w':World} {e:En} (h:RdEn w e) (hk:Kp w noM w'):RdEn w' e:=⟨h.1.keep hk,h.2.1.keep hk,h.2.2.1.keep hk,fun x hx=>(h.2.2.2 x hx).keep hk⟩
theorem RdBl.keep {w w':World} {b:Blc} (h:RdBl w b) (hk:Kp w noM w'):RdBl w' b:=⟨h.1.keep hk,h.2.1.keep hk,fun i hi=>(h.2.2.1 i hi).keep hk,h.2.2.2.keep hk⟩
theorem RdG.keep {w w':World} {g:Gr} (h:RdG w g) (hk:Kp w noM w'):RdG w' g:=⟨h.1.keep hk,fun b hb=>(h.2 b hb).keep hk⟩
theorem RdGs.keep {w w':World} {g:Grs} (h:RdGs w g) (hk:Kp w noM w'):RdGs w' g:=⟨h.1.keep hk,fun x hx=>(h.2.1 x hx).keep hk,h.2.2.1.keep hk,h.2.2.2.1.keep hk,h.2.2.2.2.1.keep hk,h.2.2.2.2.2.keep hk⟩
theorem take_snoc {α:Type} {l:List α} {i:Nat} {x:α} (h:l[i]?=some x):l.take (i+1)=l.take i++[x]:=by
  obtain ⟨hi,rfl⟩:=List.getElem?_eq_some_iff.1 h
  rw [List.take_succ_eq_append_getElem hi]
def kso:Option (Nat × List Int)→List Int
  |none=>[]
  |some p=>p.2
def encO:Option (Nat × List Int)→List Value
  |none=>[.map none]
  |some p=>[.map (some p.1)]
def sko:Option (Nat × List Int)→It
  |none=>all []
  |some p=>sk p.1 p.2
theorem encO_len (s:Option (Nat × List Int)):(encO s).length=1:=by cases s<;>rfl
theorem set_same {α:Type} {l:List α} {i:Nat} {x:α} (h:l[i]?=some x):l.set i x=l:=by
  obtain ⟨hi,rfl⟩:=List.getElem?_eq_some_iff.1 h
  exact List.set_getElem_self hi
theorem dn_add {dn el:List (Int × Nat)} {e:Int × Nat} {ks ks':List Int} (hn:dn.Nodup) (hd:∀e∈dn,e∈el) (he:e∈el) (hs:e ∉ dn) (hks:∀x,x∈ks'↔x∈ks∨x∈dn.map (·.1)) :
    (dn++[e]).Nodup∧(∀e'∈dn++[e],e'∈el)∧∀x,x∈sadd ks' e.1↔x∈ks∨x∈(dn++[e]).map (·.1):=by
  refine ⟨List.nodup_append.2 ⟨hn,List.nodup_cons.2 ⟨List.not_mem_nil,List.nodup_nil⟩,fun a ha b hb=>by rw [List.mem_singleton] at hb;subst hb;exact fun e=>hs (e▸ha)⟩,fun e' h=>?_,fun x=>?_⟩
  · rcases List.mem_append.1 h with h|h
    · exact hd e' h
    · rw [List.mem_singleton] at h;rw [h];exact he
  · rw [mem_sadd,hks,List.map_append,List.mem_append,or_assoc]
    exact or_congr Iff.rfl (or_congr Iff.rfl List.mem_singleton.symm)
theorem dn_all {dn el:List (Int × Nat)} {ks ks' kl:List Int} (hel:el.map (·.1)=kl) (hd:∀e∈dn,e∈el) (hall:∀e∈el,e∈dn) (hks:∀x,x∈ks'↔x∈ks∨x∈dn.map (·.1)) (x:Int):x∈ks'↔x∈ks∨x∈kl:=by
  rw [hks,←hel]
  refine or_congr Iff.rfl ⟨fun h=>?_,fun h=>?_⟩
  · obtain ⟨e,he,rfl⟩:=List.mem_map.1 h;exact List.mem_map.2 ⟨e,hd e he,rfl⟩
  · obtain ⟨e,he,rfl⟩:=List.mem_map.1 h;exact List.mem_map.2 ⟨e,hall e he,rfl⟩
theorem flatI_snoc (l:List Int) (x:Int):flat Fw.encI l++[.int .i64 x]=flat Fw.encI (l++[x]):=by rw [flat_snoc];rfl
theorem flatI_nil:flat Fw.encI []=[]:=rfl
theorem fst_inj:∀{el:List (Int × Nat)},(el.map (·.1)).Nodup→∀e∈el,∀e'∈el,e.1=e'.1→e=e'
  | x::el,hn,e,he,e',he',h=>by
    rw [List.map_cons,List.nodup_cons] at hn
    rcases List.mem_cons.1 he with rfl|h5<;>rcases List.mem_cons.1 he' with rfl|h6
    · rfl
    · exact absurd (List.mem_map.2 ⟨e',h6,h.symm⟩:e.1∈el.map (·.1)) hn.1
    · exact absurd (List.mem_map.2 ⟨e,h5,h⟩:e'.1∈el.map (·.1)) hn.1
    · exact fst_inj hn.2 e h5 e' h6 h
theorem dn_mem {el dn:List (Int × Nat)} {ks:List Int} (hel:el.map (·.1)=ks) (hd:∀e∈dn,e∈el) (hall:∀e∈el,e∈dn) (x:Int):x∈dn.map (·.1)↔x∈ks:=by
  have:=dn_all (ks:=[]) (ks':=dn.map (·.1)) hel hd hall (fun x=>by simp) x
  simpa using this
def mvO (st:Option (Nat × List Int)):Value:=.map (st.map (·.1))
theorem encO_eq (st:Option (Nat × List Int)):encO st=[mvO st]:=by cases st<;>rfl
theorem nd_t {p:Prop} [Decidable p] (h:(!decide p)=true):¬p:=by simpa using h
theorem nd_f {p:Prop} [Decidable p] (h:(!decide p)=false):p:=by simpa using h
end Go.Proofs.YtenlcdokaadobaaGreatDoor
namespace Go.Fw
open Go Go.RowKit
set_option linter.unusedVariables false
section
variable {P:Program} {N:Nat} {l:List (Nat × Value)} {C:World→Prop} {d:Option Tmp} {T:TypeId} {pos:String} {af:Array Edge} {g:Option (Nat × Bool)}
def geS (m n:ByteArray):Bool:=!(Op.bytesLess m.toList n.toList)
theorem ex_geqS {t ty:TypeId} {x y:Operand} {m n:ByteArray} [h:TSr P t] (hx:ev l x=some (.string m)) (hy:ev l y=some (.string n)):Ex P N l C ⟨d,.binOp .geq t x y ty,T,pos,af,g⟩ (.bool (geS m n)):=by
  intro a w hA _
  simp [execOp,hA.ev hx,hA.ev hy,eqGuard_at_string,binOp,Op.stringOp,geS]
end
end Go.Fw
namespace Go.Proofs.YtenlcdokaadobaaGreatDoor
open Go Go.Fw
set_option linter.unusedVariables false
abbrev eqS (a b:ByteArray):Bool:=a.toList == b.toList
def empS:ByteArray:=⟨#[]⟩
def risAt (l:List ByteArray) (i:Nat):Prop:=eqS (l.getD i default) empS=false∧(0<i→geS (l.getD (i - 1) default) (l.getD i default)=false)
def risP (l:List ByteArray):Prop:=∀i,i<l.length→risAt l i
def exnB:ByteArray:=⟨#[66,111,117,110,100,115]⟩
def exnD:ByteArray:=⟨#[68,105,118,105,100,101]⟩
def exnM:ByteArray:=⟨#[77,97,116,99,104]⟩
def exnS:ByteArray:=⟨#[83,105,122,101]⟩
def idxF (l:List ByteArray) (s:ByteArray):Int:=
  match l.findIdx? (fun x=>eqS s x) with
  |some i=>i
  |none=>-1
def hasS (l:List ByteArray) (s:ByteArray):Prop:=0≤idxF l s
structure AnfP (cs:List Int) (g:Grs):Prop where
  pos:1≤cs.length
  top:cs.length≤4096
  c0:cs.getD 0 0=0
  ls:risP g.ls.l
  ts:risP g.ts.l
  xs:risP g.xs.l
  has:hasS g.xs.l exnB∧hasS g.xs.l exnD∧hasS g.xs.l exnM∧hasS g.xs.l exnS
  ss:∀s∈g.ss.l,s.size≤4096
  caps:∀c∈cs,0≤c∧c≤4096
def arityF (n:Int):Int:=if n=6∨n=9∨n=10∨n=11∨n=16∨n=17∨n=20∨n=21 then 1 else if n=15 then 3 else if n<1∨21<n then -1 else 2
abbrev belowP (n m:Int):Prop:=0≤n∧n<m
def wantF (cs:List Int) (r:Stp):Int:=
  if r.k=1∨r.k=10∨r.k=11 then 1 else if r.k=2 then arityF r.n else if r.k=3∨r.k=12∨r.k=13 then 2
  else if r.k=4 then cs.getD r.n.toNat 0 else if r.k=5 then 0 else if r.k=6 then r.ns.l.length else if r.k=8∨r.k=9 then 1 else 2
def numP (g:Grs) (cs:List Int) (mine:Int) (r:Stp):Prop:=
  if r.k=2 then True else if r.k=4∨r.k=14 then belowP r.n cs.length else if r.k=5 then belowP r.n mine else if r.k=7∨r.k=8 then belowP r.n g.ls.l.length else if r.k=9 then belowP r.n g.ts.l.length else r.n=0
def labAt (g:Grs) (l:List Int) (i:Nat):Prop:=belowP (l.getD i 0) g.ls.l.length∧(0<i→l.getD (i - 1) 0<l.getD i 0)
def labP (g:Grs) (l:List Int):Prop:=∀i,i<l.length→labAt g l i
structure FormP (g:Grs) (cs:List Int) (mine:Int) (r:Stp):Prop where
  lo:1≤r.k
  hi:r.k≤14
  num:numP g cs mine r
  want:(r.a.l.length:Int)=wantF cs r
  ns:r.ns.l=[]∨r.k=6
  lab:r.k=6→labP g r.ns.l
def upAt (l:List Int) (i:Nat):Prop:=0<i→l.getD (i - 1) 0<l.getD i 0
def upP (l:List Int):Prop:=∀i,i<l.length→upAt l i
def endA (k:Int):Int:=if k=2 then 2 else if k=4 then 0 else 1
def endT (n k:Int):Int:=if k=4 then 1 else if k=5 then 2 else if k=6 then n else 0
structure EndP (e:En):Prop where
  lo:1≤e.k
  hi:e.k≤6
  a:(e.a.l.length:Int)=endA e.k
  to:(e.to.l.length:Int)=endT (IntKind.i64.wrap ((e.ns.l.length:Int)+1)) e.k
  ns:e.k=6↔0<e.ns.l.length
  up:upP e.ns.l
def atS (g:Grs) (S:Int→Prop) (a:Atm):Prop:=(a.k=1∧0≤a.n∧a.n≤1048576∧(a.n<2∨S a.n))∨(a.k=2∧-4611686018427387904≤a.n∧a.n<4611686018427387904)∨(a.k=3∧0≤a.n∧a.n<g.ss.l.length)
def bvs (b:Blc):List Int:=b.ps.l++b.is.l.map Ins.x
def goes (b:Blc) (k:Nat):Prop:=∃t∈b.e.to.l,t.b=(k:Int)
def BS (f:Gr) (k:Nat) (x:Int):Prop:=0<k∧∀m,(h:m<k)→∀bl,f.bs.l[m]?=some bl→goes bl k→x∈bvs bl∨BS f m x
termination_by k
def nowS (S:Int→Prop) (bl:Blc) (i:Nat) (x:Int):Prop:=S x∨x∈bl.ps.l∨x∈(bl.is.l.take i).map Ins.x
def come (f:Gr) (n:Nat):Prop:=n=0∨∃m bl,m<n∧f.bs.l[m]?=some bl∧goes bl n
structure BlkP (g:Grs) (f:Gr) (cs:List Int) (n:Nat) (bl:Blc) (S:Int→Prop):Prop where
  first:n=0→bl.ps.l=[]
  ins:∀(i:Nat) (x:Ins),bl.is.l[i]?=some x→FormP g cs f.caps x.r∧∀a∈x.r.a.l,atS g (nowS S bl i) a
  end_:EndP bl.e
  ends:∀a∈bl.e.a.l,atS g (nowS S bl bl.is.l.length) a
  edges:∀t∈bl.e.to.l,(n:Int)<t.b∧t.b<f.bs.l.length∧t.a.l.length=(f.bs.l.getD t.b.toNat blc0).ps.l.length∧∀a∈t.a.l,atS g (nowS S bl bl.is.l.length) a
structure EvOk (es:List Int):Prop where
  nd:es.Nodup
  rg:∀x∈es,2≤x∧x≤1048576
def blkN (bl:Blc):Nat:=2+bl.ps.l.length+(bl.is.l.map fun i=>1+i.r.a.l.length).sum+bl.e.a.l.length+(bl.e.to.l.map fun t=>1+t.a.l.length).sum
def grN (f:Gr):Nat:=(f.bs.l.map blkN).sum
def grsN (g:Grs):Nat:=(g.fs.l.map grN).sum
structure GrP (g:Grs) (cs:List Int) (f:Gr):Prop where
  ne:0<f.bs.l.length
  blk:∀(n:Nat) (bl:Blc),f.bs.l[n]?=some bl→come f n∧BlkP g f cs n bl (BS f n)
  ev:EvOk (f.bs.l.flatMap bvs)
structure MayP (g:Grs):Prop where
  anf:AnfP (g.fs.l.map Gr.caps) g
  gr:∀f∈g.fs.l,GrP g (g.fs.l.map Gr.caps) f
  size:grsN g≤65536
structure Ck where
  g:Grs
  f:Gr
  oA:Option Addr
  nA:Nat
  cA:Nat
  bE:Nat
  oT:Option Addr
  nT:Nat
  cT:Nat
def encC (c:Ck) (p:Int):List Value:=[.slice c.g.fs.o c.g.fs.l.length c.g.fs.c,.slice c.g.ls.o c.g.ls.l.length c.g.ls.c,.slice c.g.ts.o c.g.ts.l.length c.g.ts.c,.slice c.g.xs.o c.g.xs.l.length c.g.xs.c,.slice c.g.ss.o c.g.ss.l.length c.g.ss.c,
  .int .i64 c.f.caps,.slice c.f.bs.o c.f.bs.l.length c.f.bs.c,.slice c.oA c.nA c.cA,.int .i64 p,.map (some c.bE),.slice c.oT c.nT c.cT]
def bindP (es:List Int) (x:Int):Prop:=2≤x∧x≤1048576∧x ∉ es
def atOk (g:Grs) (ks:List Int) (a:Atm):Prop:=(a.k=1∧0≤a.n∧a.n≤1048576∧(a.n<2∨a.n∈ks))∨(a.k=2∧-4611686018427387904≤a.n∧a.n<4611686018427387904)∨(a.k=3∧0≤a.n∧a.n<g.ss.l.length)
def atsOk (g:Grs) (ks:List Int) (p:Int) (l:List Atm):Prop:=(∀a∈l,atOk g ks a)∧(l=[]∨p+l.length≤65536)
section
attribute [local irreducible] Code.wp wpList Calls Ex Op1 sat bat blk cb own Go.Fw.mp Go.Fw.mpO Go.Fw.mpI Go.Fw.mpE Go.Fw.itr HS Rd Ret wkD Hp Cl Cls Exit.then Exit.inBlock Exit.noGoto bodyPost Go.Fw.flat wk2 Go.Fw.all Go.Fw.owns wpOp
attribute [local irreducible] sk mpK sko mvO entK

theorem bind_spec (w0 w:World) (H:List It) (c:Ck) (bC bN:Nat) (p:Int) (es ks:List Int) (x:Int) (hH:HS w0 noM (cb bC 112 (encC c p)::sk c.bE es::sk bN ks::H) w) :
    Ret Tryz.prog 60 #[.pointer (some (bat bC 0)),.int .i64 x,.map (some bN)] w (fun r w'=>
      (bindP es x∧r= .bool true∧HS w0 noM (cb bC 112 (encC c p)::sk c.bE (es++[x])::sk bN (sadd ks x)::H) w')∨
      (¬bindP es x∧r= .bool false∧HS w0 noM (cb bC 112 (encC c p)::sk c.bE es::sk bN ks::H) w')):=by
  (refine ENT (N:=30) Tryz.func60 Tryz.ntmps60 ?_;intro a hA)
  repeat' (first|(refine GT ?_ ?_<;>intro hg<;>clear hA a<;>intro a hA<;>(first|exact FA|replace hg:=dTr hg|replace hg:=dFa hg|skip))|(refine XT ?_;apply XE;(first|(apply ex_hasK;rfl;rfl;exact MEMT));clear hA a;intro a hA)|(refine QT ?_;clear hA a;intro a hA)|refine CT ?_|(refine DT ?_ ?_<;>intro hc<;>try (exfalso;omega))|fail)
  · exact rt1 (.inl rfl) rfl hA rfl (.inr ⟨fun h=>(by have:=h.1;omega),rfl,hH⟩)
  · exact rt1 (.inl rfl) rfl hA rfl (.inr ⟨fun h=>(by have:=h.2.1;omega),rfl,hH⟩)
  · have hin:x∈es:=by assumption
    exact rt1 (.inl rfl) rfl hA rfl (.inr ⟨fun h=>h.2.2 hin,rfl,hH⟩)
  have hnin:¬x∈es:=by assumption
  have hbp:bindP es x:=⟨by omega,by omega,hnin⟩
  replace hH:=hH.up 1 rfl
  dsimp only [List.eraseIdx_cons_succ,List.eraseIdx_cons_zero] at hH
  (refine st_op hA rfl rfl (by decide) (op_entryK rfl rfl hH hnin) ?_;clear hA hH;rintro _ w ⟨cl,rfl,hH⟩ a hA)
  repeat' (first|(refine QT ?_;clear hA a;intro a hA)|fail)
  (refine st_op0 hA rfl rfl (op_entryStK rfl rfl rfl hH) ?_;clear hH;rintro _ w hH)
  repeat' (first|(refine QT ?_;clear hA a;intro a hA)|(apply st_op0 hA rfl rfl;apply op_addK;rfl;rfl;rfl;exact hH;(repeat constructor);clear hH;rintro _ w hH)|refine CT ?_|fail)
  exact rt1 (.inl rfl) rfl hA rfl (.inl ⟨hbp,rfl,hH.perm PMT⟩)

theorem atk {g:Grs} {ks:List Int} {a:Atm}:atOk g ks a↔(a.k=1∧0≤a.n∧a.n≤1048576∧(a.n<2∨a.n∈ks))∨(a.k=2∧-4611686018427387904≤a.n∧a.n<4611686018427387904)∨(a.k=3∧0≤a.n∧a.n<g.ss.l.length):=Iff.rfl
theorem ats_next {g:Grs} {ks:List Int} {p:Int} {l:List Atm} {i:Nat} {a:Atm} (h:l[i]?=some a) (hp:∀b∈l.take i,atOk g ks b) (ha:atOk g ks a):∀b∈l.take (i+1),atOk g ks b:=by
  intro b hb
  rw [take_snoc h] at hb
  rcases List.mem_append.1 hb with h1|h1
  · exact hp b h1
  · rw [List.mem_singleton] at h1
    exact h1▸ha
theorem ats_no {g:Grs} {ks:List Int} {p:Int} {l:List Atm} {i:Nat} {a:Atm} (h:l[i]?=some a) (ha:¬atOk g ks a):¬atsOk g ks p l:=fun hc=>ha (hc.1 a (List.mem_of_getElem? h))
theorem ats_many {g:Grs} {ks:List Int} {p:Int} {l:List Atm} {i:Nat} (hi:i<l.length) (h:65536<p+((i+1:Nat):Int)):¬atsOk g ks p l:=by
  rintro ⟨_,h2|h2⟩
  · rw [h2] at hi
    cases hi
  · omega
theorem atoms_spec (w0 w:World) (H:List It) (c:Ck) (bC bW:Nat) (p:Int) (ks:List Int) (v:Vec Atm) (hH:HS w0 noM (cb bC 112 (encC c p)::sk bW ks::H) w) (hR:RdV w0 encAt v) (hp0:0≤p) (hp1:p≤3000000) :
    Ret Tryz.prog 62 #[.pointer (some (bat bC 0)),.slice v.o v.l.length v.c,.map (some bW)] w (fun r w'=>
      (atsOk c.g ks p v.l∧r= .bool true∧HS w0 noM (cb bC 112 (encC c (p+v.l.length))::sk bW ks::H) w')∨
      (¬atsOk c.g ks p v.l∧r= .bool false∧∃p',0≤p'∧p'≤3000001∧HS w0 noM (cb bC 112 (encC c p')::sk bW ks::H) w')):=by
  have hle:=hR.le
  have hsp:Sp v.o v.l.length:=hR.1.sp (sz:=2) (flat_length encAt_len _) (by omega)
  (refine ENT (N:=82) Tryz.func62 Tryz.ntmps62 ?_;intro a hA)
  repeat' (first|(refine QT ?_;clear hA a;intro a hA)|refine CT ?_|fail)
  refine wp_lpk (S:=Nat) (fun i a w=>(i≤v.l.length∧(∀b∈v.l.take i,atOk c.g ks b)∧(i=0∨p+i≤65536))∧HS w0 noM (cb bC 112 (encC c (p+i))::sk bW ks::H) w∧Sl 82 [(12,.int .i64 i),(11,.int .i64 v.l.length),(10,.slice v.o v.l.length v.c),(0,.pointer (some (bat bC 0))),(2,.map (some bW))] a) (fun i=>v.l.length - i)
    (fun a w=>atsOk c.g ks p v.l∧HS w0 noM (cb bC 112 (encC c (p+v.l.length))::sk bW ks::H) w∧Sl 82 [] a) 0 ⟨⟨Nat.zero_le _,(by rw [List.take_zero];exact fun b h=>absurd h List.not_mem_nil),.inl rfl⟩,(by rw [show p+((0:Nat):Int)=p by omega];exact hH),(hA.sub SBT)⟩ ?_ ?_
  · clear hA hH
    rintro i a w ⟨⟨hi,hok,hpi⟩,hH,hA⟩
    by_cases hlt:i<v.l.length
    rotate_left
    · obtain rfl:i=v.l.length:=by omega
      rw [List.take_length] at hok
      repeat' (first|(refine QT ?_;clear hA a;intro a hA)|refine CT ?_|(refine DT ?_ ?_<;>intro hc<;>try (exfalso;omega))|fail)
      exact ⟨⟨hok,hpi.imp (fun h=>List.length_eq_zero_iff.1 h) id⟩,hH,(hA.sub SBT)⟩
    obtain ⟨x,hx⟩:∃x,v.l[i]?=some x:=⟨_,List.getElem?_eq_getElem hlt⟩
    have hvs:=flat_all encAt_len hx
    have hpb:p+(i:Int)≤3000000:=by rcases hpi with h|h<;>omega
    have e1:p+(i:Int)+1=p+((i+1:Nat):Int):=by omega
    repeat' (first|(refine GT ?_ ?_<;>intro hg<;>clear hA a<;>intro a hA<;>(first|exact FA|replace hg:=dTr hg|replace hg:=dFa hg|skip))|(refine XT ?_;apply XE;(first|(apply ex_hasK;rfl;rfl;exact MEMT)|(apply ex_load_st (vs:=encAt x);rfl;rfl;exact cls_rd hR.1 id hvs));clear hA a;intro a hA)|(refine QT ?_;clear hA a;intro a hA)|(refine BT ?_;clear hA hH;rintro _ w ⟨bN,rfl,hH⟩ a hA)|(refine SAT (encAt x) hA hH ?_;clear hH;intro w hH)|(apply st_op0 hA rfl rfl;apply op_store_fld (cs':=encC c (p+(i:Int)+1));rfl;rfl;rfl;exact hH;(repeat constructor);clear hH;rintro _ w hH)|refine CT ?_|(refine DT ?_ ?_<;>intro hc<;>try (exfalso;omega))|(refine wp_draw_HS [(0,1),(1,1),(2,1),(3,1),(4,1),(5,1),(6,1),(7,1),(8,1),(9,1),(10,1),(11,1),(12,1),(13,1),(14,1)] mixed (by decide +kernel) hH ?_;replace hH:=hH.drew)|fail)
    all_goals first
      |exact ⟨i+1,⟨⟨hlt,ats_next (p:=p) hx hok (by first|exact .inl ⟨by assumption,by assumption,by assumption,.inl (by assumption)⟩|exact .inl ⟨by assumption,by assumption,by assumption,.inr (nd_f (by assumption))⟩|exact .inr (.inl ⟨by assumption,by assumption,nd_f (by assumption)⟩)|exact .inr (.inr ⟨by assumption,by assumption,nd_f (by assumption)⟩)),.inr (by omega)⟩,(by rw [←e1];exact hH.tail),(hA.sub SBT)⟩,by omega⟩
      |exact rt1 (.inl rfl) rfl hA rfl (.inr ⟨ats_many hlt (by omega),rfl,_,by omega,by omega,hH.tail⟩)
      |exact rt1 (.inl rfl) rfl hA rfl (.inr ⟨ats_no hx (fun h=>(by rcases atk.1 h with ⟨h1,h2,h3,h4⟩| ⟨h1,h2,h3⟩| ⟨h1,h2,h3⟩<;>first|omega|exact absurd h3 (nd_t (by assumption))|(rcases h4 with h4|h4<;>first|omega|exact absurd h4 (nd_t (by assumption))))),rfl,_,by omega,by omega,hH.tail⟩)
  clear hA hH
  rintro a w ⟨hok,hH,hA⟩
  repeat' (first|(refine QT ?_;clear hA a;intro a hA)|refine CT ?_|fail)
  exact rt1 (.inl rfl) rfl hA rfl (.inl ⟨hok,rfl,hH⟩)
end
theorem ints_at {l:List Int} {k:Nat} (h:k<l.length):(flat Fw.encI l)[k*1]?=some (.int .i64 (l.getD k 0)):=by
  refine flat_get (off:=0) Fw.encI_len (List.getElem?_eq_getElem h) ?_
  rw [List.getD_eq_getElem?_getD,List.getElem?_eq_getElem h]
  rfl
def encP (o:Option Addr) (n c:Nat) (g:Grs):List Value:=[.slice o n c,.slice g.ls.o g.ls.l.length g.ls.c,.slice g.ts.o g.ts.l.length g.ts.c,.slice g.xs.o g.xs.l.length g.xs.c,.slice g.ss.o g.ss.l.length g.ss.c]
theorem and_dec {p q:Prop} [Decidable p] [Decidable q] (h:p):decide q=decide (p∧q):=by
  by_cases hq:q
  · rw [decide_eq_true hq,decide_eq_true ⟨h,hq⟩]
  · rw [decide_eq_false hq,decide_eq_false (fun h=>hq h.2)]
theorem w_1 {g:Grs} {cs:List Int} {mine:Int} {r:Stp} (h:r.k=1∨r.k=10∨r.k=11):wantF cs r=1∧(numP g cs mine r↔r.n=0):=by
  unfold wantF numP
  rcases h with h|h|h<;>rw [h]<;>exact ⟨rfl,Iff.rfl⟩
theorem w_2 {g:Grs} {cs:List Int} {mine:Int} {r:Stp} (h:r.k=2):wantF cs r=arityF r.n∧(numP g cs mine r↔True):=by
  unfold wantF numP
  rw [h];exact ⟨rfl,Iff.rfl⟩
theorem w_3 {g:Grs} {cs:List Int} {mine:Int} {r:Stp} (h:r.k=3∨r.k=12∨r.k=13):wantF cs r=2∧(numP g cs mine r↔r.n=0):=by
  unfold wantF numP
  rcases h with h|h|h<;>rw [h]<;>exact ⟨rfl,Iff.rfl⟩
theorem w_4 {g:Grs} {cs:List Int} {mine:Int} {r:Stp} (h:r.k=4):wantF cs r=cs.getD r.n.toNat 0∧(numP g cs mine r↔belowP r.n cs.length):=by
  unfold wantF numP
  rw [h];exact ⟨rfl,Iff.rfl⟩
theorem w_5 {g:Grs} {cs:List Int} {mine:Int} {r:Stp} (h:r.k=5):wantF cs r=0∧(numP g cs mine r↔belowP r.n mine):=by
  unfold wantF numP
  rw [h];exact ⟨rfl,Iff.rfl⟩
theorem w_6 {g:Grs} {cs:List Int} {mine:Int} {r:Stp} (h:r.k=6):wantF cs r=r.ns.l.length∧(numP g cs mine r↔r.n=0):=by
  unfold wantF numP
  rw [h];exact ⟨rfl,Iff.rfl⟩
theorem w_7 {g:Grs} {cs:List Int} {mine:Int} {r:Stp} (h:r.k=7):wantF cs r=2∧(numP g cs mine r↔belowP r.n g.ls.l.length):=by
  unfold wantF numP
  rw [h];exact ⟨rfl,Iff.rfl⟩
theorem w_8 {g:Grs} {cs:List Int} {mine:Int} {r:Stp} (h:r.k=8):wantF cs r=1∧(numP g cs mine r↔belowP r.n g.ls.l.length):=by
  unfold wantF numP
  rw [h];exact ⟨rfl,Iff.rfl⟩
theorem w_9 {g:Grs} {cs:List Int} {mine:Int} {r:Stp} (h:r.k=9):wantF cs r=1∧(numP g cs mine r↔belowP r.n g.ts.l.length):=by
  unfold wantF numP
  rw [h];exact ⟨rfl,Iff.rfl⟩
theorem w_14 {g:Grs} {cs:List Int} {mine:Int} {r:Stp} (h:r.k=14):wantF cs r=2∧(numP g cs mine r↔belowP r.n cs.length):=by
  unfold wantF numP
  rw [h];exact ⟨rfl,Iff.rfl⟩
structure StepJ (g:Grs) (cs:List Int) (mine:Int) (r:Stp) (wt:Int) (n:Bool):Prop where
  lo:1≤r.k
  hi:r.k≤14
  want:n=true→wantF cs r=wt
  num:numP g cs mine r↔n=true
  lab:r.k=6→labP g r.ns.l
theorem StepJ.form {g:Grs} {cs:List Int} {mine:Int} {r:Stp} {wt:Int} {n b:Bool} (h:StepJ g cs mine r wt n) (hb:b=true↔n=true∧(r.a.l.length:Int)=wt∧(r.ns.l=[]∨r.k=6)):b=true↔FormP g cs mine r:=by
  rw [hb,←h.num]
  exact ⟨fun ⟨h1,h2,h3⟩=>⟨h.lo,h.hi,h1,h2.trans (h.want (h.num.1 h1)).symm,h3,h.lab⟩,fun h1=>⟨h1.num,h1.want.trans (h.want (h.num.1 h1.num)),h1.ns⟩⟩
theorem form_no {g:Grs} {cs:List Int} {mine:Int} {r:Stp} (h:¬FormP g cs mine r):false=true↔FormP g cs mine r:=⟨fun e=>(by cases e),fun e=>absurd e h⟩
theorem lab_next {g:Grs} {l:List Int} {i:Nat} (h:∀k,k<i→labAt g l k) (ha:labAt g l i):∀k,k<i+1→labAt g l k:=fun k hk=>by
  by_cases e:k=i
  · exact e▸ha
  · exact h k (by omega)
theorem lab_no {g:Grs} {cs:List Int} {mine:Int} {r:Stp} {i:Nat} (hi:i<r.ns.l.length) (hk:r.k=6) (ha:¬labAt g r.ns.l i):¬FormP g cs mine r:=fun h=>ha (h.lab hk i hi)
section
attribute [local irreducible] Code.wp wpList Calls Ex Op1 sat bat blk cb own Go.Fw.mp Go.Fw.mpO Go.Fw.mpI Go.Fw.mpE Go.Fw.itr HS Rd Ret wkD Hp Cl Cls Exit.then Exit.inBlock Exit.noGoto bodyPost Go.Fw.flat wk2 Go.Fw.all Go.Fw.owns wpOp
attribute [local irreducible] sk mpK sko mvO entK

theorem below_spec (w0:World) (n m:Int):Ret Tryz.prog 128 #[.int .i64 n,.int .i64 m] w0 (fun v w=>v= .bool (decide (0≤n∧n<m))∧Kp w0 noM w):=by
  have hH:HS w0 noM [] w0:=HS.init w0 noM
  (refine ENT (N:=12) Tryz.func128 Tryz.ntmps128 ?_;intro a hA)
  repeat' (first|(refine GT ?_ ?_<;>intro hg<;>clear hA a<;>intro a hA<;>(first|exact FA|replace hg:=dTr hg|replace hg:=dFa hg|skip))|(refine QT ?_;clear hA a;intro a hA)|refine CT ?_|fail)
  · exact rt1 (.inl rfl) rfl hA rfl ⟨by rw [and_dec (p:=0≤n) (by assumption)],hH.kp⟩
  · exact rt1 (.inl rfl) rfl hA rfl ⟨by rw [decide_eq_false];exact fun h=>(by assumption:¬0≤n) h.1,hH.kp⟩
theorem arity_spec (w0:World) (n:Int):Ret Tryz.prog 127 #[.int .i64 n] w0 (fun v w=>v= .int .i64 (arityF n)∧Kp w0 noM w):=by
  have hH:HS w0 noM [] w0:=HS.init w0 noM
  (refine ENT (N:=21) Tryz.func127 Tryz.ntmps127 ?_;intro a hA)
  repeat' (first|(refine GT ?_ ?_<;>intro hg<;>clear hA a<;>intro a hA<;>(first|exact FA|replace hg:=dTr hg|replace hg:=dFa hg|skip))|(refine QT ?_;clear hA a;intro a hA)|refine CT ?_|(refine DT ?_ ?_<;>intro hc<;>try (exfalso;omega))|fail)
  all_goals exact rt1 (.inl rfl) rfl hA rfl ⟨by congr 1;unfold arityF;(repeat (first|rw [if_pos (by omega)]|rw [if_neg (by omega)])),hH.kp⟩
theorem Step_spec (w0:World) (oP:Option Addr) (nP cP:Nat) (g:Grs) (oA:Option Addr) (cA:Nat) (la:List Int) (mine:Int) (r:Stp) (hA0:Rd w0 oA (flat Fw.encI la)) (hla:la.length≤9223372036854775807) (hN:RdV w0 Fw.encI r.ns) :
    Ret Tryz.prog 104 #[.agg (encP oP nP cP g).toArray,.slice oA la.length cA,.int .i64 mine,.agg (encSt r).toArray] w0 (fun v w=>∃b,v= .bool b∧(b=true↔FormP g la mine r)∧Kp w0 noM w):=by
  have hH:HS w0 noM [] w0:=HS.init w0 noM
  have hle:=hN.le
  have hspA:Sp oA la.length:=hA0.sp (sz:=1) (flat_length Fw.encI_len _) (by omega)
  have hspN:Sp r.ns.o r.ns.l.length:=hN.1.sp (sz:=1) (flat_length Fw.encI_len _) (by omega)
  have hnil:r.ns.l=[]↔r.ns.l.length=0:=List.length_eq_zero_iff.symm
  (refine ENT (N:=134) Tryz.func104 Tryz.ntmps104 ?_;intro a hA)
  repeat' (first|(refine QT ?_;clear hA a;intro a hA)|(refine BT ?_;clear hA hH;rintro _ w ⟨bN,rfl,hH⟩ a hA)|refine CT ?_|fail)
  obtain ⟨b7,hb7⟩:∃x,x=bN:=⟨_,rfl⟩
  rw [←hb7] at hA hH
  clear hb7
  rename_i b4 _
  have hX:=hH
  (refine wp_draw_HS [(0,1),(1,1),(2,1),(3,1),(4,1)] mixed (by decide +kernel) hH ?_;replace hH:=hH.drew)
  (first|(apply dr_exb hA rfl rfl rfl (by decide) rfl (ex_move rfl)<;>intro hg<;>clear hA a<;>intro a hA<;>(first|(replace hg:=dTr hg;try (exfalso;omega))|(replace hg:=dFa hg;try (exfalso;omega))|(exact absurd hg (by decide))|skip))|(apply dr_ex hA rfl rfl rfl (by decide);(first|(apply ex_move;rfl)|(apply ex_assign;rfl)|exact EXT);clear hA a;intro a hA)|(apply dr_skip hA rfl rfl rfl (by decide);clear hA a;intro a hA)|(apply dr_exp hA rfl rfl rfl (by decide);(first|(apply ex_move;rfl)|(apply ex_assign;rfl)|exact EXT);clear hA a;intro a hA)|(apply dr_ex3 hA hH rfl rfl rfl (by decide);(first|(apply ex_move;rfl)|(apply ex_assign;rfl)|exact EXT);clear hA a;intro a hA)|(apply dr_skip3 hA rfl rfl rfl (by decide);clear hA a;intro a hA)|apply dr_nil|apply dr_late|apply dr_nil2)
  (first|(apply dr_exb hA rfl rfl rfl (by decide) rfl (ex_move rfl)<;>intro hg<;>clear hA a<;>intro a hA<;>(first|(replace hg:=dTr hg;try (exfalso;omega))|(replace hg:=dFa hg;try (exfalso;omega))|(exact absurd hg (by decide))|skip))|(apply dr_ex hA rfl rfl rfl (by decide);(first|(apply ex_move;rfl)|(apply ex_assign;rfl)|exact EXT);clear hA a;intro a hA)|(apply dr_skip hA rfl rfl rfl (by decide);clear hA a;intro a hA)|(apply dr_exp hA rfl rfl rfl (by decide);(first|(apply ex_move;rfl)|(apply ex_assign;rfl)|exact EXT);clear hA a;intro a hA)|(apply dr_ex3 hA hH rfl rfl rfl (by decide);(first|(apply ex_move;rfl)|(apply ex_assign;rfl)|exact EXT);clear hA a;intro a hA)|(apply dr_skip3 hA rfl rfl rfl (by decide);clear hA a;intro a hA)|apply dr_nil|apply dr_late|apply dr_nil2)
  clear hH
  have hH:HS w0 noM [] w.drew:=hX.drop_.drew
  repeat' (first|(refine QT ?_;clear hA a;intro a hA)|refine CT ?_|fail)
  replace hH:=hX.drew
  clear hX
  refine st_join (fun a w=>∃(wt:Int) (n:Bool),StepJ g la mine r wt n∧HS w0 noM [cb b7 57 (encSt r),cb b4 34 (encP oP nP cP g)] w∧Sl 134 [(8,.bool false),(9,.int .i64 wt),(10,.bool n),(7,.pointer (some (bat b7 0)))] a) ?_ ?_
  · repeat' (first|(refine XT ?_;apply XE;(first|(apply ex_indexAddr;rfl;rfl;omega;omega;exact hspA)|(apply ex_load;rfl;refine cl_rd hA0 id (ints_at ?_);omega));clear hA a;intro a hA)|(refine QT ?_;clear hA a;intro a hA)|(refine st_op hA rfl rfl (by decide) (op_call rfl rfl rfl (below_spec _ _ _)) ?_;clear hA;rintro _ w ⟨rfl,hk⟩ a hA;replace hH:=hH.keep hk;clear hk)|(refine st_op hA rfl rfl (by decide) (op_call rfl rfl rfl (arity_spec _ _)) ?_;clear hA;rintro _ w ⟨rfl,hk⟩ a hA;replace hH:=hH.keep hk;clear hk)|refine CT ?_|(refine DT ?_ ?_<;>intro hc<;>try (exfalso;omega))|fail)
    all_goals (first|exact ⟨_,_,⟨by omega,by omega,fun _=>(w_1 (g:=g) (mine:=mine) (by omega)).1,(w_1 (by omega)).2.trans decide_eq_true_iff.symm,fun h=>absurd h (by omega)⟩,hH,(hA.sub SBT)⟩|exact ⟨_,_,⟨by omega,by omega,fun _=>(w_2 (g:=g) (mine:=mine) (by assumption)).1,(w_2 (by assumption)).2.trans (iff_of_true trivial rfl),fun h=>absurd h (by omega)⟩,hH,(hA.sub SBT)⟩|exact ⟨_,_,⟨by omega,by omega,fun _=>(w_3 (g:=g) (mine:=mine) (by omega)).1,(w_3 (by omega)).2.trans decide_eq_true_iff.symm,fun h=>absurd h (by omega)⟩,hH,(hA.sub SBT)⟩|exact ⟨_,_,⟨by omega,by omega,fun _=>(w_4 (g:=g) (mine:=mine) (by assumption)).1,(w_4 (by assumption)).2.trans decide_eq_true_iff.symm,fun h=>absurd h (by omega)⟩,hH,(hA.sub SBT)⟩|exact ⟨_,_,⟨by omega,by omega,fun h=>absurd (dTr h) (by assumption),(w_4 (by assumption)).2.trans decide_eq_true_iff.symm,fun h=>absurd h (by omega)⟩,hH,(hA.sub SBT)⟩|exact ⟨_,_,⟨by omega,by omega,fun _=>(w_5 (g:=g) (mine:=mine) (by assumption)).1,(w_5 (by assumption)).2.trans decide_eq_true_iff.symm,fun h=>absurd h (by omega)⟩,hH,(hA.sub SBT)⟩|exact ⟨_,_,⟨by omega,by omega,fun _=>(w_7 (g:=g) (mine:=mine) (by assumption)).1,(w_7 (by assumption)).2.trans decide_eq_true_iff.symm,fun h=>absurd h (by omega)⟩,hH,(hA.sub SBT)⟩|exact ⟨_,_,⟨by omega,by omega,fun _=>(w_8 (g:=g) (mine:=mine) (by assumption)).1,(w_8 (by assumption)).2.trans decide_eq_true_iff.symm,fun h=>absurd h (by omega)⟩,hH,(hA.sub SBT)⟩|exact ⟨_,_,⟨by omega,by omega,fun _=>(w_9 (g:=g) (mine:=mine) (by assumption)).1,(w_9 (by assumption)).2.trans decide_eq_true_iff.symm,fun h=>absurd h (by omega)⟩,hH,(hA.sub SBT)⟩|exact ⟨_,_,⟨by omega,by omega,fun _=>(w_14 (g:=g) (mine:=mine) (by assumption)).1,(w_14 (by assumption)).2.trans decide_eq_true_iff.symm,fun h=>absurd h (by omega)⟩,hH,(hA.sub SBT)⟩|exact rt1 (.inl rfl) rfl hA rfl ⟨_,rfl,form_no (fun h=>(by have h1:=h.lo;have h2:=h.hi;omega)),hH.kp⟩|skip)
    refine wp_lpk (S:=Nat) (fun i a w=>(i≤r.ns.l.length∧∀k,k<i→labAt g r.ns.l k)∧HS w0 noM [cb b7 57 (encSt r),cb b4 34 (encP oP nP cP g)] w∧Sl 134 [(58,.int .i64 i),(57,.int .i64 r.ns.l.length),(56,.slice r.ns.o r.ns.l.length r.ns.c),(8,.bool false),(9,.int .i64 r.ns.l.length),(10,.bool (decide (r.n=0))),(7,.pointer (some (bat b7 0))),(4,.pointer (some (bat b4 0)))] a) (fun i=>r.ns.l.length - i)
      (fun a w=>labP g r.ns.l∧HS w0 noM [cb b7 57 (encSt r),cb b4 34 (encP oP nP cP g)] w∧Sl 134 [(8,.bool false),(9,.int .i64 r.ns.l.length),(10,.bool (decide (r.n=0))),(7,.pointer (some (bat b7 0)))] a) 0 ⟨⟨Nat.zero_le _,fun k h=>absurd h (Nat.not_lt_zero _)⟩,hH,(hA.sub SBT)⟩ ?_ ?_
    · clear hA hH
      rintro i a w ⟨⟨hi,hlab⟩,hH,hA⟩
      by_cases hlt:i<r.ns.l.length
      rotate_left
      · repeat' (first|(refine QT ?_;clear hA a;intro a hA)|refine CT ?_|(refine DT ?_ ?_<;>intro hc<;>try (exfalso;omega))|fail)
        obtain rfl:i=r.ns.l.length:=by omega
        exact ⟨hlab,hH,(hA.sub SBT)⟩
      have e1:((i:Int) - 1).toNat=i - 1:=by omega
      repeat' (first|(refine GT ?_ ?_<;>intro hg<;>clear hA a<;>intro a hA<;>(first|exact FA|replace hg:=dTr hg|replace hg:=dFa hg|skip))|(refine XT ?_;apply XE;(first|(apply ex_indexAddr_nat;rfl;rfl;omega;exact hspN)|(apply ex_indexAddr;rfl;rfl;omega;omega;exact hspN)|(apply ex_load;rfl;refine cl_rd hN.1 id (ints_at ?_);omega));clear hA a;intro a hA)|(refine QT ?_;clear hA a;intro a hA)|(refine st_op hA rfl rfl (by decide) (op_call rfl rfl rfl (below_spec _ _ _)) ?_;clear hA;rintro _ w ⟨rfl,hk⟩ a hA;replace hH:=hH.keep hk;clear hk)|refine CT ?_|(refine DT ?_ ?_<;>intro hc<;>try (exfalso;omega))|fail)
      all_goals first
        |exact ⟨i+1,⟨⟨hlt,lab_next hlab ⟨nd_f (by assumption),fun h0=>(by omega)⟩⟩,hH,(hA.sub SBT)⟩,by omega⟩
        |exact ⟨i+1,⟨⟨hlt,lab_next hlab ⟨nd_f (by assumption),fun h0=>(by rw [←e1];omega)⟩⟩,hH,(hA.sub SBT)⟩,by omega⟩
        |exact rt1 (.inl rfl) rfl hA rfl ⟨_,rfl,form_no (lab_no hlt (by assumption) (fun h=>nd_t (by assumption) h.1)),hH.kp⟩
        |exact rt1 (.inl rfl) rfl hA rfl ⟨_,rfl,form_no (lab_no hlt (by assumption) (fun h=>(by have h1:=h.2 (by omega);rw [←e1] at h1;omega))),hH.kp⟩
    clear hA hH
    rintro a w ⟨hlab,hH,hA⟩
    repeat' (first|(refine QT ?_;clear hA a;intro a hA)|refine CT ?_|fail)
    all_goals exact ⟨_,_,⟨by omega,by omega,fun _=>(w_6 (g:=g) (mine:=mine) (by assumption)).1,(w_6 (by assumption)).2.trans decide_eq_true_iff.symm,fun _=>hlab⟩,hH,(hA.sub SBT)⟩
  clear hA hH
  rintro a w ⟨wt,n,hJ,hH,hA⟩
  repeat' (first|(refine GT ?_ ?_<;>intro hg<;>clear hA a<;>intro a hA<;>(first|exact FA|replace hg:=dTr hg|replace hg:=dFa hg|skip))|(refine QT ?_;clear hA a;intro a hA)|refine CT ?_|fail)
  all_goals first
    |exact rt1 (.inl rfl) rfl hA rfl ⟨_,rfl,hJ.form ⟨fun _=>⟨by assumption,by assumption,.inl (hnil.2 (by omega))⟩,fun _=>rfl⟩,hH.kp⟩
    |exact rt1 (.inl rfl) rfl hA rfl ⟨_,rfl,hJ.form ⟨fun h=>⟨by assumption,by assumption,.inr (dTr h)⟩,fun h=>decide_eq_true (h.2.2.resolve_left fun e=>absurd (hnil.1 e) (by omega))⟩,hH.kp⟩
    |exact rt1 (.inl rfl) rfl hA rfl ⟨_,rfl,hJ.form ⟨fun h=>(by cases h),fun h=>absurd h.2.1 (by assumption)⟩,hH.kp⟩
    |exact rt1 (.inl rfl) rfl hA rfl ⟨_,rfl,hJ.form ⟨fun h=>(by cases h),fun h=>absurd ((by assumption:n=false).symm.trans h.1) (by decide)⟩,hH.kp⟩
end
instance:TAr Tryz.prog 217 2 3:=⟨Tryz.underlying217⟩
theorem ex_lookup2 {P:Program} {N:Nat} {l:List (Nat × Value)} {d:Option Tmp} {T:TypeId} {pos:String} {af:Array Edge} {g:Option (Nat × Bool)} {t kt e sz by_ b:Nat} {kk:IntKind} {z u v:Value} {zs:List Value} {x y:Operand} {m:List (Int × Value)} {k:Int} {ok:Bool} {w0:World} {M:Nat→Prop} {H:List It} [ht:TMp P t kt e] [hk:TIn P kt kk] [hi:TIf P e z zs sz by_]
    (hx:ev l x=some (.map (some b))) (hy:ev l y=some (.int .i64 k)) (hm:mp b m∈H) (h1:(mv m k).getD z= .agg #[u,v]) (h2:(mv m k).isSome=ok):Ex P N l (HS w0 M H) ⟨d,.lookup t x y true,T,pos,af,g⟩ (.tuple #[.agg #[u,v],.bool ok]):=by
  rw [←h1,←h2]
  exact ex_lookup_ok hx hy hm
def pairV (a b:Int):Value:=.agg #[.int .i64 a,.int .i64 b]
def endM (n:Int):List (Int × Value):=mset (mset (mset (mset (mset (mset [] 1 (pairV 1 0)) 2 (pairV 2 0)) 3 (pairV 1 0)) 4 (pairV 0 1)) 5 (pairV 1 2)) 6 (pairV 1 n)
theorem endM_eq (n:Int):endM n=[(1,pairV 1 0),(2,pairV 2 0),(3,pairV 1 0),(4,pairV 0 1),(5,pairV 1 2),(6,pairV 1 n)]:=rfl
theorem endM_fold (n:Int):mset (mset (mset (mset (mset (mset [] 1 (.agg #[.int .i64 1,.int .i64 0])) 2 (.agg #[.int .i64 2,.int .i64 0])) 3 (.agg #[.int .i64 1,.int .i64 0])) 4 (.agg #[.int .i64 0,.int .i64 1])) 5 (.agg #[.int .i64 1,.int .i64 2])) 6 (.agg #[.int .i64 1,.int .i64 n])=endM n:=rfl
theorem endM_mv (n k:Int):(1≤k∧k≤6∧mv (endM n) k=some (pairV (endA k) (endT n k)))∨(¬(1≤k∧k≤6)∧mv (endM n) k=none):=by
  rw [endM_eq]
  by_cases h:1≤k∧k≤6
  · refine .inl ⟨h.1,h.2,?_⟩
    have:k=1∨k=2∨k=3∨k=4∨k=5∨k=6:=by omega
    rcases this with rfl|rfl|rfl|rfl|rfl|rfl<;>rfl
  · refine .inr ⟨h,?_⟩
    have h1:¬(1:Int)=k:=by omega
    have h2:¬(2:Int)=k:=by omega
    have h3:¬(3:Int)=k:=by omega
    have h4:¬(4:Int)=k:=by omega
    have h5:¬(5:Int)=k:=by omega
    have h6:¬(6:Int)=k:=by omega
    simp [mv,h1,h2,h3,h4,h5,h6]
theorem up_next {l:List Int} {i:Nat} (h:∀k,k<i→upAt l k) (ha:upAt l i):∀k,k<i+1→upAt l k:=fun k hk=>by
  by_cases e:k=i
  · exact e▸ha
  · exact h k (by omega)
theorem end_no {e:En} (h:¬EndP e):false=true↔EndP e:=⟨fun e=>(by cases e),fun e=>absurd e h⟩
section
attribute [local irreducible] Code.wp wpList Calls Ex Op1 sat bat blk cb own Go.Fw.mp Go.Fw.mpO Go.Fw.mpI Go.Fw.mpE Go.Fw.itr HS Rd Ret wkD Hp Cl Cls Exit.then Exit.inBlock Exit.noGoto bodyPost Go.Fw.flat wk2 Go.Fw.all Go.Fw.owns wpOp
attribute [local irreducible] sk mpK sko mvO entK endM Go.Fw.mset Go.Fw.mv

theorem end_spec (w0:World) (e:En) (hN:RdV w0 Fw.encI e.ns):Ret Tryz.prog 63 #[.agg (encEn e).toArray] w0 (fun v w=>∃b,v= .bool b∧(b=true↔EndP e)∧Kp w0 noM w):=by
  have hH:HS w0 noM [] w0:=HS.init w0 noM
  have hle:=hN.le
  have hspN:Sp e.ns.o e.ns.l.length:=hN.1.sp (sz:=1) (flat_length Fw.encI_len _) (by omega)
  (refine ENT (N:=77) Tryz.func63 Tryz.ntmps63 ?_;intro a hA)
  repeat' (first|(refine QT ?_;clear hA a;intro a hA)|(refine BT ?_;clear hA hH;rintro _ w ⟨bN,rfl,hH⟩ a hA)|refine CT ?_|fail)
  obtain ⟨b1,hb1⟩:∃x,x=bN:=⟨_,rfl⟩
  rw [←hb1] at hA hH
  clear hb1 bN
  (refine st_op hA rfl rfl (by decide) (op_makeMap hH) ?_;clear hA hH;rintro _ w ⟨bM,rfl,hH⟩ a hA)
  repeat' (first|(refine XT ?_;apply XE;(first|(apply ex_build2;rfl;rfl;rfl;rfl;rfl)|(apply ex_addW;rfl;rfl));clear hA a;intro a hA)|(refine QT ?_;clear hA a;intro a hA)|(apply st_op0 hA rfl rfl;apply op_insertV;rfl;rfl;rfl;exact hH;(repeat constructor);clear hH;rintro _ w hH)|refine CT ?_|fail)
  rw [endM_fold] at hH
  obtain ⟨n,hn⟩:∃x,x=IntKind.i64.wrap (e.ns.l.length+1):=⟨_,rfl⟩
  rw [←hn] at hA hH
  have hev:∃(h0 h1:Int) (ok:Bool),(mv (endM n) e.k).getD (.agg #[.int .i64 0,.int .i64 0])= .agg #[.int .i64 h0,.int .i64 h1]∧(mv (endM n) e.k).isSome=ok∧(ok=true→1≤e.k∧e.k≤6∧h0=endA e.k∧h1=endT n e.k)∧(ok=false→¬(1≤e.k∧e.k≤6)):=by
    rcases endM_mv n e.k with ⟨h1,h2,h3⟩| ⟨h1,h2⟩
    · exact ⟨_,_,true,by rw [h3];rfl,by rw [h3];rfl,fun _=>⟨h1,h2,rfl,rfl⟩,fun h=>(by cases h)⟩
    · exact ⟨0,0,false,by rw [h2];rfl,by rw [h2];rfl,fun h=>(by cases h),fun _=>h1⟩
  obtain ⟨h0,h1,ok,hv,hok,hyes,hno⟩:=hev
  (refine st_ex hA hH rfl rfl (by decide) (ex_lookup2 (m:=endM n) (k:=e.k) rfl rfl (by exact MEMT) hv hok) ?_;clear hA a;intro a hA)
  clear hv hok
  cases ok with
  | false=>
    repeat' (first|(refine GT ?_ ?_<;>intro hg<;>clear hA a<;>intro a hA<;>(first|exact FA|replace hg:=dTr hg|replace hg:=dFa hg|skip))|(refine QT ?_;clear hA a;intro a hA)|(refine BT ?_;clear hA hH;rintro _ w ⟨bN,rfl,hH⟩ a hA)|(refine SAT ([.int .i64 h0,.int .i64 h1]) hA hH ?_;clear hH;intro w hH)|refine CT ?_|fail)
    all_goals exact rt1 (.inl rfl) rfl hA rfl ⟨_,rfl,end_no (fun h=>hno rfl ⟨h.lo,h.hi⟩),hH.kp⟩
  |true=>
  obtain ⟨hk1,hk2,ha0,ht0⟩:=hyes rfl
  clear hyes hno
  repeat' (first|(refine GT ?_ ?_<;>intro hg<;>clear hA a<;>intro a hA<;>(first|exact FA|replace hg:=dTr hg|replace hg:=dFa hg|skip))|(refine XT ?_;apply XE;(first|(apply ex_indexArr;rfl;rfl;decide));clear hA a;intro a hA)|(refine QT ?_;clear hA a;intro a hA)|(refine BT ?_;clear hA hH;rintro _ w ⟨bN,rfl,hH⟩ a hA)|(refine SAT ([.int .i64 h0,.int .i64 h1]) hA hH ?_;clear hH;intro w hH)|refine CT ?_|(refine DT ?_ ?_<;>intro hc<;>try (exfalso;omega))|fail)
  · exact rt1 (.inl rfl) rfl hA rfl ⟨_,rfl,end_no (fun h=>by have:=h.a;omega),hH.kp⟩
  · exact rt1 (.inl rfl) rfl hA rfl ⟨_,rfl,end_no (fun h=>by have:=h.to;rw [←hn] at this;omega),hH.kp⟩
  · exact rt1 (.inl rfl) rfl hA rfl ⟨_,rfl,end_no (fun h=>(by assumption:¬decide (e.k=6)=decide (0<(e.ns.l.length:Int))) (decide_eq_decide.2 ⟨fun h6=>(by have:=h.ns.1 h6;omega),fun h6=>h.ns.2 (by omega)⟩)),hH.kp⟩
  have hns:e.k=6↔0<e.ns.l.length:=(decide_eq_decide.1 (by assumption:decide (e.k=6)=decide (0<(e.ns.l.length:Int)))).trans (by omega)
  have ha1:(e.a.l.length:Int)=endA e.k:=by omega
  have ht1:(e.to.l.length:Int)=endT (IntKind.i64.wrap ((e.ns.l.length:Int)+1)) e.k:=by rw [←hn];omega
  refine wp_lpk (S:=Nat) (fun i a w=>(i≤e.ns.l.length∧∀k,k<i→upAt e.ns.l k)∧HS w0 noM [cb b1 51 (encEn e)] w∧Sl 77 [(57,.int .i64 i),(56,.int .i64 e.ns.l.length),(1,.pointer (some (bat b1 0)))] a) (fun i=>e.ns.l.length - i)
    (fun a w=>upP e.ns.l∧HS w0 noM [] w∧Sl 77 [] a) 0 ⟨⟨Nat.zero_le _,fun k h=>absurd h (Nat.not_lt_zero _)⟩,hH.tail.tail,(hA.sub SBT)⟩ ?_ ?_
  · clear hA hH
    rintro i a w ⟨⟨hi,hup⟩,hH,hA⟩
    by_cases hlt:i<e.ns.l.length
    rotate_left
    · obtain rfl:i=e.ns.l.length:=by omega
      repeat' (first|(refine QT ?_;clear hA a;intro a hA)|refine CT ?_|(refine DT ?_ ?_<;>intro hc<;>try (exfalso;omega))|fail)
      exact ⟨hup,hH.tail,(hA.sub SBT)⟩
    have e1:((i:Int) - 1).toNat=i - 1:=by omega
    repeat' (first|(refine QT ?_;clear hA a;intro a hA)|refine CT ?_|(refine DT ?_ ?_<;>intro hc<;>try (exfalso;omega))|fail)
    (refine wp_draw_HS [(0,1),(1,1),(2,1),(3,1),(4,1),(5,1),(6,1),(7,1),(8,1),(9,1),(10,1),(11,1),(12,1),(13,1),(14,1),(15,1)] mixed (by decide +kernel) hH ?_;replace hH:=hH.drew)
    repeat' (first|(refine GT ?_ ?_<;>intro hg<;>clear hA a<;>intro a hA<;>(first|exact FA|replace hg:=dTr hg|replace hg:=dFa hg|skip))|(refine XT ?_;apply XE;(first|(apply ex_indexAddr_nat;rfl;rfl;omega;exact hspN)|(apply ex_indexAddr;rfl;rfl;omega;omega;exact hspN)|(apply ex_load;rfl;refine cl_rd hN.1 id (ints_at ?_);omega));clear hA a;intro a hA)|(refine QT ?_;clear hA a;intro a hA)|refine CT ?_|(refine DT ?_ ?_<;>intro hc<;>try (exfalso;omega))|fail)
    all_goals first
      |exact ⟨i+1,⟨⟨hlt,up_next hup (fun h0=>(by omega))⟩,hH,(hA.sub SBT)⟩,by omega⟩
      |exact ⟨i+1,⟨⟨hlt,up_next hup (fun h0=>(by rw [←e1];omega))⟩,hH,(hA.sub SBT)⟩,by omega⟩
      |exact rt1 (.inl rfl) rfl hA rfl ⟨_,rfl,end_no (fun h=>(by have h1:=h.up i hlt (by omega);rw [←e1] at h1;omega)),hH.kp⟩
  clear hA hH
  rintro a w ⟨hup,hH,hA⟩
  repeat' (first|(refine QT ?_;clear hA a;intro a hA)|refine CT ?_|fail)
  exact rt1 (.inl rfl) rfl hA rfl ⟨_,rfl,iff_of_true rfl ⟨hk1,hk2,ha1,ht1,hns,hup⟩,hH.kp⟩

theorem step2_spec (w0 w:World) (H:List It) (c:Ck) (bC:Nat) (p:Int) (la:List Int) (r:Stp) (hH:HS w0 noM (cb bC 112 (encC c p)::H) w) (hm:own 3 1 c.oA c.nA c.cA (flat Fw.encI la)∈H) (hn:c.nA=la.length) (hla:la.length≤9223372036854775807) (hN:RdV w0 Fw.encI r.ns) :
    Ret Tryz.prog 61 #[.pointer (some (bat bC 0)),.agg (encSt r).toArray] w (fun v w'=>∃b,v= .bool b∧(b=true↔FormP c.g la c.f.caps r)∧HS w0 noM (cb bC 112 (encC c p)::H) w'):=by
  (refine ENT (N:=39) Tryz.func61 Tryz.ntmps61 ?_;intro a hA)
  repeat' (first|(refine QT ?_;clear hA a;intro a hA)|(refine BT ?_;clear hA hH;rintro _ w ⟨bN,rfl,hH⟩ a hA)|refine CT ?_|fail)
  obtain ⟨b3,hb3⟩:∃x,x=bN:=⟨_,rfl⟩
  rw [←hb3] at hA hH
  clear hb3 bN
  (refine wp_draw_HS [(0,1),(1,1),(2,1),(3,1),(4,1),(5,1),(6,1),(7,1),(8,1),(9,1),(10,1),(11,1),(12,1),(13,1),(14,1),(15,1),(16,1),(17,1),(18,1),(19,1),(20,1),(21,0),(22,0)] mixed (by decide +kernel) hH ?_;replace hH:=hH.drew)
  repeat' (first|(refine XT ?_;apply XE;(first|(apply ex_build_p (cs:=(encP none 0 0 c.g).toArray);rfl;exact FLT;rfl));clear hA a;intro a hA)|(refine QT ?_;clear hA a;intro a hA)|fail)
  (apply dr_op hA rfl rfl rfl (by decide);apply op_alloc;exact hH;clear hA hH;rintro _ w ⟨bN,rfl,hH⟩;refine ⟨hH.tail,?_⟩;intro a hA)
  (apply dr_op0 hA rfl rfl rfl;apply op_store_agg (vs:=encP none 0 0 c.g);rfl;rfl;exact hH;(repeat constructor);(repeat rfl);clear hH;rintro _ w hH;refine ⟨hH.tail,?_⟩)
  repeat' (first|(refine QT ?_;clear hA a;intro a hA)|refine CT ?_|fail)
  (refine wp_draw_HS [(0,1),(1,1),(2,1),(3,1),(4,1),(5,1),(6,1),(7,1),(8,1),(9,1),(10,1),(11,0),(12,1)] mixed (by decide +kernel) hH ?_;replace hH:=hH.drew)
  repeat' (first|(refine QT ?_;clear hA a;intro a hA)|fail)
  have hS:=Step_spec _ none 0 0 c.g c.oA c.cA la c.f.caps r (hH.own_rd (T:=3) (n:=c.nA) (cap:=c.cA) (sz:=1) (.tail _ (.tail _ (.tail _ hm)))) hla (hN.keep hH.kp)
  rw [←hn] at hS
  (refine dr_op hA rfl rfl rfl (by decide) (op_call rfl rfl rfl (hS)) ?_;clear hA;rintro _ w ⟨b,rfl,hbF,hk⟩;refine ⟨hH.keep hk,?_⟩;intro a hA)
  replace hH:=hH.keep hk
  repeat' (first|(refine QT ?_;clear hA a;intro a hA)|refine CT ?_|fail)
  exact rt1 (.inl rfl) rfl hA rfl ⟨_,rfl,hbF,hH.tail.tail⟩
end
end Go.Proofs.YtenlcdokaadobaaGreatDoor
namespace Go.Fw
open Go Go.RowKit
set_option linter.unusedVariables false
section
variable {P:Program} {N:Nat} {l:List (Nat × Value)} {a:Act} {d:Option Tmp} {T:TypeId} {pos:String} {af:Array Edge} {g:Option (Nat × Bool)}
theorem op_delEl {t kt e b:Nat} {kk:IntKind} {x y:Operand} {u:TypeId} {el:List (Int × Nat)} {clock:Nat} {k:Int} {w0 w:World} {M:Nat→Prop} {H H':List It} [ht:TMp P t kt e] [hk:TIn P kt kk]
    (hx:ev l x=some (.map (some b))) (hy:ev l y=some (.int .i64 k)) (hH:HS w0 M H w) (hok:ElK el clock) (hr:Rp H (mpK b el clock) (mpK b (el.filter fun e=>!(e.1 == k)) clock) H') :
    Op1 P N l ⟨d,.call ⟨.builtin .delete,#[x,y],#[t,u]⟩,T,pos,af,g⟩ w (fun v w'=>v= .tuple #[]∧HS w0 M H' w'):=by
  intro a hA K Q hK
  obtain ⟨R,p,_⟩:=hr.split
  obtain ⟨F,h3,h4⟩:=hH.sat (p.symm.subset (List.mem_cons_self))
  have hfm:((el.map mkK).filter fun e=>!(e.1 == k))=(el.filter fun e=>!(e.1 == k)).map mkK:=by
    rw [List.filter_map]
    rfl
  unfold Oper.wp
  simp only [execOp,resolve,invoke,builtin,List.map_toArray,List.map_cons,List.map_nil,hA.ev hx,hA.ev hy,Builtin.delete_,Sem.run_bind,Sem.run_pure,Result.andThen_ok,List.getElem?_toArray,List.getElem?_cons_zero,List.getElem?_cons_succ,
    run_underlying ht.eq,run_getObj_map h4,run_checkKey,run_findKey]
  cases hf:fnd k (el.map mkK) 0 with
  | some q=>
    obtain ⟨j,v0⟩:=q
    obtain ⟨_,born,hj⟩:=fnd_some k _ 0 j v0 hf
    simp only [Nat.sub_zero] at hj
    have hlt:j<(el.map mkK).length:=(List.getElem?_eq_some_iff.1 hj).1
    have herase:((el.map mkK).map mkE).toArray.eraseIdxIfInBounds j=(((el.filter fun e=>!(e.1 == k)).map mkK).map mkE).toArray:=by
      apply Array.ext'
      rw [←hfm,←eraseIdx_fnd hok.es.keys hj]
      simp only [List.eraseIdxIfInBounds_toArray,eraseIdx_map']
    simp only [Sem.run_bind,run_setObj_map h4,Result.andThen_ok,herase,Sem.run_pure,Oper.upon]
    refine hK _ _ ⟨rfl,hH.turn hr fun F' hF'=>?_⟩
    obtain ⟨hF1,hF2⟩:=hF'
    exact ⟨setObj_kp ((hF1 b).2 rfl),F',⟨hF1,setObj_at h4⟩,fun b hb=>.inr hb⟩
  | none=>
    have hne:=fnd_none k _ 0 hf
    have hself:(el.filter fun e=>!(e.1 == k))=el:=by
      refine List.filter_eq_self.2 fun e he=>?_
      have:=hne (mkK e) (List.mem_map.2 ⟨e,he,rfl⟩)
      simpa [mkK] using this
    rw [hself] at hr
    simp only [Sem.run_bind,run_setObj_map h4,Result.andThen_ok,Sem.run_pure,Oper.upon]
    refine hK _ _ ⟨rfl,hH.turn hr fun F' hF'=>?_⟩
    obtain ⟨hF1,hF2⟩:=hF'
    exact ⟨setObj_kp ((hF1 b).2 rfl),F',⟨hF1,setObj_at h4⟩,fun b hb=>.inr hb⟩
theorem op_nextKd {r b clock:Nat} {el el0 done:List (Int × Nat)} {x:Operand} {w0 w:World} {M:Nat→Prop} {H:List It}
    (hx:ev l x=some (.pointer (some (bat r 0)))) (hH:HS w0 M H w) (hi:itr r b clock (done.map (·.2))∈H) (hm:mpK b el clock∈H) (hok:ElK el clock) (hok0:ElK el0 clock) (hs:∀e∈el,e∈el0) (hd:∀e∈done,e∈el0) :
    Op1 P N l ⟨d,.next x false,T,pos,af,g⟩ w (fun v w'=>
      ((∀e∈el,e∈done)∧v= .tuple #[.bool false]∧HS w0 M H w')∨
      (∃e∈el,e ∉ done∧v= .tuple #[.bool true,.int .i64 e.1,.bool true]∧∀H',Rp H (itr r b clock (done.map (·.2))) (itr r b clock ((done++[e]).map (·.2))) H'→HS w0 M H' w')):=by
  intro a hA K Q hK
  have hinj:∀e∈el0,∀e'∈el0,e.2=e'.2→e=e':=fun e he e' he' h2=>by
    have hn:=hok0.borns
    clear hm hd hi hH hK hs hok
    induction el0 with
    |nil=>cases he
    | cons x el ih=>
      rw [List.map_cons,List.nodup_cons] at hn
      rcases List.mem_cons.1 he with rfl|h5<;>rcases List.mem_cons.1 he' with rfl|h6
      · rfl
      · exact absurd (List.mem_map.2 ⟨e',h6,h2.symm⟩:e.2∈el.map (·.2)) hn.1
      · exact absurd (List.mem_map.2 ⟨e,h5,h2⟩:e'.2∈el.map (·.2)) hn.1
      · exact ih ⟨(List.nodup_cons.1 hok0.keys).2,hn.2,fun e he=>hok0.lt e (.tail _ he)⟩ h5 h6 hn.2
  refine op_next hx hH hi hm hok.es a hA K Q fun v w' h=>hK v w' ?_
  rcases h with ⟨h1,h2,h3⟩| ⟨e,he,h1,h2,h3⟩
  · refine .inl ⟨fun e he=>?_,h2,h3⟩
    obtain ⟨e',he',h4⟩:=List.mem_map.1 (h1 (mkK e) (List.mem_map.2 ⟨e,he,rfl⟩))
    exact hinj e' (hd e' he') e (hs e he) h4▸he'
  · obtain ⟨e',he',rfl⟩:=List.mem_map.1 he
    refine .inr ⟨e',he',fun h4=>h1 (List.mem_map.2 ⟨e',h4,rfl⟩),h2,fun H' hr=>h3 H' ?_⟩
    rw [List.map_append] at hr
    exact hr
end
end Go.Fw
namespace Go.Proofs.YtenlcdokaadobaaGreatDoor
open Go Go.Fw
set_option linter.unusedVariables false
theorem flat_set_ids (tc:List (Option (Nat × List Int))) (t b:Nat) (k1 k2:List Int):flat encO (tc.set t (some (b,k1)))=flat encO (tc.set t (some (b,k2))):=by
  unfold Fw.flat
  rw [List.flatMap_def,List.flatMap_def,List.map_set,List.map_set]
  rfl
def elL (el0 dn:List (Int × Nat)) (ks:List Int) (el:List (Int × Nat)):Prop:=∀e,e∈el↔e∈el0∧(e ∉ dn∨e.1∈ks)
theorem elL_keep {el0 dn el:List (Int × Nat)} {ks:List Int} (h:elL el0 dn ks el) {e:Int × Nat} (he:e.1∈ks):elL el0 (dn++[e]) ks el:=by
  intro e'
  rw [h,List.mem_append,List.mem_singleton,not_or]
  refine and_congr_right fun _=>⟨?_,?_⟩
  · rintro (h1|h1)
    · by_cases h2:e'=e
      · exact .inr (h2▸he)
      · exact .inl ⟨h1,h2⟩
    · exact .inr h1
  · rintro (h1|h1)
    · exact .inl h1.1
    · exact .inr h1
theorem elL_del {el0 dn el:List (Int × Nat)} {ks:List Int} (h:elL el0 dn ks el) (hk:(el0.map (·.1)).Nodup) {e:Int × Nat} (h0:e∈el0) (he:e.1 ∉ ks):elL el0 (dn++[e]) ks (el.filter fun x=>!(x.1 == e.1)):=by
  intro e'
  rw [List.mem_filter,h,List.mem_append,List.mem_singleton,not_or]
  have hb:((!(e'.1 == e.1))=true)↔e'.1≠e.1:=by simp
  rw [hb]
  constructor
  · rintro ⟨⟨h1,h2⟩,h3⟩
    refine ⟨h1,h2.imp (fun h4=>⟨h4,fun h5=>h3 (h5▸rfl)⟩) id⟩
  · rintro ⟨h1,h2⟩
    refine ⟨⟨h1,h2.imp And.left id⟩,fun h3=>?_⟩
    have:=fst_inj hk e' h1 e h0 h3
    rcases h2 with h2|h2
    · exact h2.2 this
    · exact he (this▸h2)
theorem elL_ok {el0 dn el:List (Int × Nat)} {ks:List Int} {clock:Nat} (h:elL el0 dn ks el) (hok0:ElK el0 clock) (hok:ElK el clock) (k:Int):ElK (el.filter fun x=>!(x.1 == k)) clock:=
  ⟨List.Nodup.sublist (List.filter_sublist.map _) hok.keys,List.Nodup.sublist (List.filter_sublist.map _) hok.borns,fun e he=>hok.lt e (List.mem_filter.1 he).1⟩
theorem elL_all {el0 dn el:List (Int × Nat)} {ks k0:List Int} (h:elL el0 dn ks el) (hel:el0.map (·.1)=k0) (hall:∀e∈el,e∈dn) (x:Int):x∈el.map (·.1)↔x∈ks∧x∈k0:=by
  rw [←hel,List.mem_map,List.mem_map]
  constructor
  · rintro ⟨e,he,rfl⟩
    have h1:=(h e).1 he
    exact ⟨h1.2.resolve_left fun h2=>h2 (hall e he),e,h1.1,rfl⟩
  · rintro ⟨h1,e,he,rfl⟩
    exact ⟨e,(h e).2 ⟨he,.inr h1⟩,rfl⟩
theorem elL_0 (el0:List (Int × Nat)) (ks:List Int):elL el0 [] ks el0:=fun e=>⟨fun h=>⟨h,.inl List.not_mem_nil⟩,And.left⟩
theorem flat_set_at (tc:List (Option (Nat × List Int))) {t b:Nat} {k1:List Int} (h:t<tc.length):(flat encO (tc.set t (some (b,k1))))[t*1]?=some (.map (some b)):=
  flat_get (off:=0) encO_len (List.getElem?_set_self h) rfl
theorem flat_set_same {tc:List (Option (Nat × List Int))} {t b:Nat} {k1:List Int} (ht:t<tc.length) (h:(flat encO tc)[t*1]?=some (.map (some b))):flat encO (tc.set t (some (b,k1)))=flat encO tc:=by
  have h1:tc[t]?=some tc[t]:=List.getElem?_eq_getElem ht
  have h2:(flat encO tc)[t*1]?=some (mvO tc[t]):=flat_get (off:=0) encO_len h1 (by rw [encO_eq];rfl)
  rw [h] at h2
  have h3:encO (some (b,k1))=encO tc[t]:=by
    rw [encO_eq,encO_eq,←Option.some.inj h2]
    rfl
  unfold Fw.flat
  rw [List.flatMap_def,List.flatMap_def,List.map_set,h3]
  congr 1
  exact set_same (by rw [List.getElem?_map,h1];rfl)
theorem mvO_n:mvO none= .map none:=rfl
theorem mvO_s (b:Nat) (ks:List Int):mvO (some (b,ks))= .map (some b):=rfl
theorem sko_s (b:Nat) (ks:List Int):sko (some (b,ks))=sk b ks:=rfl
theorem sko_sets (bs:List (Option (Nat × List Int))) (j b:Nat) (ks:List Int):(bs.map sko).set j (sk b ks)=(bs.set j (some (b,ks))).map sko:=by rw [List.map_set];rfl
theorem mset_a {k1 k2 ks:List Int} (h:∀x,x∈k1↔x∈ks) (x:Int):x∈k1↔x∈ks∧((none:Option (Nat × List Int))=none∨x∈k2):=by
  rw [h]
  exact ⟨fun h=>⟨h,.inl rfl⟩,And.left⟩
section
attribute [local irreducible] Code.wp wpList Calls Ex Op1 sat bat blk cb own Go.Fw.mp Go.Fw.mpO Go.Fw.mpI Go.Fw.mpE Go.Fw.itr HS Rd Ret wkD Hp Cl Cls Exit.then Exit.inBlock Exit.noGoto bodyPost Go.Fw.flat wk2 Go.Fw.all Go.Fw.owns wpOp
attribute [local irreducible] sk mpK sko mvO entK

theorem meet_spec (w0 w:World) (H:List It) (c:Ck) (bC bW t:Nat) (p:Int) (ks:List Int) (tc th:List (Option (Nat × List Int))) (st:Option (Nat × List Int))
    (hH:HS w0 noM (cb bC 112 (encC c p)::own 109 1 c.oT c.nT c.cT (flat encO (tc))::all (th.map sko)::sk bW ks::H) w) (hn:c.nT=th.length) (hn2:tc.length=th.length) (ht:t<th.length) (hst:th[t]?=some st) (hc:(flat encO tc)[t*1]?=some (mvO st)) :
    Ret Tryz.prog 64 #[.pointer (some (bat bC 0)),.int .i64 t,.map (some bW)] w (fun v w'=>∃b' ks',(∀x,x∈ks'↔x∈ks∧(st=none∨x∈kso st))∧
      HS w0 noM (cb bC 112 (encC c p)::own 109 1 c.oT c.nT c.cT (flat encO (tc.set t (some (b',ks'))))::all ((th.set t (some (b',ks'))).map sko)::sk bW ks::H) w'):=by
  have hspT:Sp c.oT c.nT:=hH.own_sp (T:=109) (.tail _ (.head _))
  have htm:t<(th.map sko).length:=by rw [List.length_map];exact ht
  have hsm:(th.map sko)[t]?=some (sko st):=by rw [List.getElem?_map,hst];rfl
  have hH1:=(hH.up 2 rfl).openAt hsm
  clear hH
  dsimp only [List.eraseIdx_cons_succ,List.eraseIdx_cons_zero] at hH1
  rcases st with _| ⟨b0,k0⟩
  · rw [mvO_n] at hc
    have hH:=hH1.tail
    clear hH1
    (refine ENT (N:=61) Tryz.func64 Tryz.ntmps64 ?_;intro a hA)
    repeat' (first|(refine XT ?_;apply XE;(first|(apply ex_eqlMapT;rfl;rfl)|(apply ex_indexAddr_nat;rfl;rfl;omega;exact hspT)|(apply ex_load;rfl;apply cl_own (T:=109);exact MEMT;exact hc));clear hA a;intro a hA)|(refine QT ?_;clear hA a;intro a hA)|refine CT ?_|fail)
    (refine st_op hA rfl rfl (by decide) (op_makeMapK hH) ?_;clear hA hH;rintro _ w ⟨b',rfl,hH⟩ a hA)
    have htb:t*1<tc.length:=by omega
    repeat' (first|(refine XT ?_;apply XE;(first|(apply ex_indexAddr_nat;rfl;rfl;omega;exact hspT));clear hA a;intro a hA)|(refine QT ?_;clear hA a;intro a hA)|(apply st_op0 hA rfl rfl;apply op_set1 (enc:=encO) (y0:=some (b',[]));rfl;rfl;rfl;rfl;exact encO_len;exact hH;(repeat constructor);exact htb;clear hH;rintro _ w hH)|refine CT ?_|fail)
    rw [Nat.mul_one] at hH
    have hv:=flat_set_at tc (b:=b') (k1:=[]) (show t<tc.length by omega)
    have hsk:sk bW ks∈sk b' []::all ((th.map sko).eraseIdx t)::cb bC 112 (encC c p)::own 109 1 c.oT c.nT c.cT (flat encO (tc.set t (some (b',[]))))::sk bW ks::H:=by exact MEMT
    obtain ⟨el,clock,hel,hok,hop⟩:=hH.openK hsk
    replace hH:=hop _ (by (repeat constructor))
    clear hop hsk
    (refine st_op hA rfl rfl (by decide) (op_rangeK rfl hH (by exact MEMT)) ?_;clear hA hH;rintro _ w ⟨r,rfl,hH⟩ a hA)
    repeat' (first|(refine QT ?_;clear hA a;intro a hA)|refine CT ?_|fail)
    refine wp_lpk (S:=List (Int × Nat)) (fun dn a w=>∃ks',(dn.Nodup∧(∀e∈dn,e∈el)∧∀x,x∈ks'↔x∈dn.map (·.1))∧HS w0 noM (sk b' ks'::itr r bW clock (dn.map (·.2))::mpK bW el clock::cb bC 112 (encC c p)::own 109 1 c.oT c.nT c.cT (flat encO (tc.set t (some (b',[]))))::all ((th.map sko).eraseIdx t)::H) w∧
        Sl 61 [(24,.pointer (some (bat r 0))),(0,.pointer (some (bat bC 0))),(1,.int .i64 t)] a) (fun dn=>el.length - dn.length)
      (fun a w=>∃ks',(∀x,x∈ks'↔x∈ks)∧HS w0 noM (sk b' ks'::sk bW ks::cb bC 112 (encC c p)::own 109 1 c.oT c.nT c.cT (flat encO (tc.set t (some (b',[]))))::all ((th.map sko).eraseIdx t)::H) w∧Sl 61 [] a) [] ⟨[],⟨List.nodup_nil,fun e he=>absurd he List.not_mem_nil,fun x=>Iff.rfl⟩,hH.perm PMT,(hA.sub SBT)⟩ ?_ ?_
    · clear hA hH
      rintro dn a w ⟨ks',⟨hdn,hd,hks⟩,hH,hA⟩
      repeat' (first|(refine QT ?_;clear hA a;intro a hA)|refine CT ?_|fail)
      refine st_op hA rfl rfl (by decide) (op_nextK rfl hH (by exact MEMT) (by exact MEMT) hok hd) ?_
      clear hA
      rintro _ w2 (⟨hall,rfl,hH⟩| ⟨e,he,hs,rfl,hup⟩) a hA
      · repeat' (first|(refine QT ?_;clear hA a;intro a hA)|refine CT ?_|fail)
        replace hH:=hH.shutK (b:=bW) hok (by (repeat constructor))
        rw [hel] at hH
        exact ⟨ks',fun x=>(hks x).trans (dn_mem hel hd hall x),hH.rm 1,(hA.sub SBT)⟩
      · have hlt:=done_lt hdn hd he hs
        clear hH
        have hH:=hup _ (by (repeat constructor))
        clear hup
        have ha:=dn_add (ks:=[]) (ks':=ks') hdn hd he hs (fun x=>by rw [hks];simp)
        repeat' (first|(refine XT ?_;apply XE;(first|(apply ex_entryK;rfl;exact MEMT;exact MEMT;exact hok;exact he)|(apply ex_indexAddr_nat;rfl;rfl;omega;exact hspT)|(apply ex_load;rfl;apply cl_own (T:=109);exact MEMT;exact hv));clear hA a;intro a hA)|(refine QT ?_;clear hA a;intro a hA)|(apply st_op0 hA rfl rfl;apply op_addK;rfl;rfl;rfl;exact hH;(repeat constructor);clear hH;rintro _ w hH)|refine CT ?_|fail)
        have hl:(dn++[e]).length=dn.length+1:=by rw [List.length_append];rfl
        exact ⟨dn++[e],⟨_,⟨ha.1,ha.2.1,fun x=>by rw [ha.2.2];simp⟩,hH,(hA.sub SBT)⟩,by omega⟩
    clear hA hH
    rintro a w ⟨ks',hks,hH,hA⟩
    repeat' (first|(refine QT ?_;clear hA a;intro a hA)|refine CT ?_|fail)
    refine rt0 (.inl rfl) rfl hA ⟨b',ks',mset_a hks,?_⟩
    rw [flat_set_ids tc t b' ks' []]
    have hH2:=(hH.perm (H':=sk b' ks'::all ((th.map sko).eraseIdx t)::cb bC 112 (encC c p)::own 109 1 c.oT c.nT c.cT (flat encO (tc.set t (some (b',[]))))::sk bW ks::H) PMT).shutAt htm
    rw [sko_sets] at hH2
    exact hH2.perm PMT
  · rw [mvO_s] at hc
    rw [sko_s] at hH1
    have hH:=hH1
    clear hH1
    have hfs:=fun k1=>flat_set_same (k1:=k1) (show t<tc.length by omega) hc
    (refine ENT (N:=61) Tryz.func64 Tryz.ntmps64 ?_;intro a hA)
    repeat' (first|(refine XT ?_;apply XE;(first|(apply ex_eqlMapF;rfl;rfl)|(apply ex_indexAddr_nat;rfl;rfl;omega;exact hspT)|(apply ex_load;rfl;apply cl_own (T:=109);exact MEMT;exact hc));clear hA a;intro a hA)|(refine QT ?_;clear hA a;intro a hA)|refine CT ?_|fail)
    obtain ⟨el0,clock,hel,hok0,hop⟩:=hH.openK (b:=b0) (ks:=k0) (.head _)
    replace hH:=hop _ (by (repeat constructor))
    clear hop
    (refine st_op hA rfl rfl (by decide) (op_rangeK rfl hH (by exact MEMT)) ?_;clear hA hH;rintro _ w ⟨r,rfl,hH⟩ a hA)
    repeat' (first|(refine QT ?_;clear hA a;intro a hA)|refine CT ?_|fail)
    refine wp_lpk (S:=List (Int × Nat)) (fun dn a w=>∃el,(dn.Nodup∧(∀e∈dn,e∈el0)∧elL el0 dn ks el∧ElK el clock)∧HS w0 noM (mpK b0 el clock::itr r b0 clock (dn.map (·.2))::sk bW ks::cb bC 112 (encC c p)::own 109 1 c.oT c.nT c.cT (flat encO (tc))::all ((th.map sko).eraseIdx t)::H) w∧
        Sl 61 [(44,.pointer (some (bat r 0))),(0,.pointer (some (bat bC 0))),(1,.int .i64 t),(2,.map (some bW))] a) (fun dn=>el0.length - dn.length)
      (fun a w=>∃ks',(∀x,x∈ks'↔x∈ks∧x∈k0)∧HS w0 noM (sk b0 ks'::sk bW ks::cb bC 112 (encC c p)::own 109 1 c.oT c.nT c.cT (flat encO (tc))::all ((th.map sko).eraseIdx t)::H) w∧Sl 61 [] a) [] ⟨el0,⟨List.nodup_nil,fun e he=>absurd he List.not_mem_nil,elL_0 _ _,hok0⟩,hH.perm PMT,(hA.sub SBT)⟩ ?_ ?_
    · clear hA hH
      rintro dn a w ⟨el,⟨hdn,hd,hll,hok⟩,hH,hA⟩
      repeat' (first|(refine QT ?_;clear hA a;intro a hA)|refine CT ?_|fail)
      refine st_op hA rfl rfl (by decide) (op_nextKd rfl hH (by exact MEMT) (by exact MEMT) hok hok0 (fun e he=>((hll e).1 he).1) hd) ?_
      clear hA
      rintro _ w2 (⟨hall,rfl,hH⟩| ⟨e,he,hs,rfl,hup⟩) a hA
      · repeat' (first|(refine QT ?_;clear hA a;intro a hA)|refine CT ?_|fail)
        replace hH:=hH.shutK (b:=b0) hok (by (repeat constructor))
        exact ⟨_,elL_all hll hel hall,hH.rm 1,(hA.sub SBT)⟩
      · have he0:=((hll e).1 he).1
        have hlt:=done_lt hdn hd he0 hs
        clear hH
        have hH:=hup _ (by (repeat constructor))
        clear hup
        have ha:=dn_add (ks:=[]) (ks':=dn.map (·.1)) hdn hd he0 hs (fun x=>by simp)
        have hl:(dn++[e]).length=dn.length+1:=by rw [List.length_append];rfl
        repeat' (first|(refine XT ?_;apply XE;(first|(apply ex_entryK;rfl;exact MEMT;exact MEMT;exact hok;exact he)|(apply ex_hasK;rfl;rfl;exact MEMT)|(apply ex_indexAddr_nat;rfl;rfl;omega;exact hspT));clear hA a;intro a hA)|(refine QT ?_;clear hA a;intro a hA)|(first|(apply st_op0 hA rfl rfl;apply op_delEl;rfl;rfl;exact hH;exact hok;(repeat constructor);clear hH;rintro _ w ⟨_,hH⟩)|(apply st_op hA rfl rfl (by decide);apply op_delEl;rfl;rfl;exact hH;exact hok;(repeat constructor);clear hA hH;rintro _ w ⟨rfl,hH⟩ a hA))|refine CT ?_|(refine DT ?_ ?_<;>intro hc<;>try (exfalso;omega))|fail)
        · have hni:¬e.1∈ks:=by assumption
          exact ⟨dn++[e],⟨_,⟨ha.1,ha.2.1,elL_del hll hok0.keys he0 hni,elL_ok hll hok0 hok _⟩,hH,(hA.sub SBT)⟩,by omega⟩
        · have hi:e.1∈ks:=by assumption
          exact ⟨dn++[e],⟨_,⟨ha.1,ha.2.1,elL_keep hll hi,hok⟩,hH,(hA.sub SBT)⟩,by omega⟩
    clear hA hH
    rintro a w ⟨ks',hks,hH,hA⟩
    repeat' (first|(refine QT ?_;clear hA a;intro a hA)|fail)
    refine rt0 (.inr rfl) rfl hA ⟨b0,ks',fun x=>(hks x).trans (and_congr_right fun _=>⟨.inr,fun h=>h.resolve_left (fun h=>by cases h)⟩),?_⟩
    rw [hfs ks']
    have hH2:=(hH.perm (H':=sk b0 ks'::all ((th.map sko).eraseIdx t)::cb bC 112 (encC c p)::own 109 1 c.oT c.nT c.cT (flat encO (tc))::sk bW ks::H) PMT).shutAt htm
    rw [sko_sets] at hH2
    exact hH2.perm PMT
end
end Go.Proofs.YtenlcdokaadobaaGreatDoor
