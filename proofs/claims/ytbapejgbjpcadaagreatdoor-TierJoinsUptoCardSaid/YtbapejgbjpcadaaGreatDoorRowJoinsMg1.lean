/-
  More of the frame: pointers against nil. Conditions: none.
  More of the frame: what a row of trials does, named once. Each of these takes a goal, does one step by trial, and hands on the goal that is left. Conditions: none.
  A region whose operations come up in one of several orders: a plan, with ways. Conditions: none.
  Strings: their length, a byte, a part; as bytes and back. Conditions: none.
  A region of which some come last, told from further off. Conditions: none.
  What is made and never turned again: known by what is known of it. Conditions: none.
  The frame of a law's proof, where what is handed in is not great ('..UptoSaid'). Conditions: none.
  A range over a function: its rounds, what is put off till the function's end. Conditions: none.
  Sets: maps from ints to true. Conditions: none.
  Maps against nil; a new key by its entry; sums that wrap; arrays of two; literals of maps. Conditions: none.
  Plans as in the fifteenth part, with one of three. Conditions: none.
  Values whose type is told with them: made, asked for their type, held against nil; texts one behind the other. Conditions: none.
  A region whose operations come up in one of several orders, and some of which come last. Conditions: none.
  What is known of this seat's types and functions, for the frame. Printed by a program. Conditions: none.
  Code as it lies in memory; what can be joined, said plainly. Conditions: none.
  What can be joined; what is gone to: walks. Conditions: none.
  Looking in a rising row: walks of the library. Conditions: none.
-/
import Derived.Test.YtbapejgbjpcadaaGreatDoorRowJoinsMg0
import Derived.Laws.Pointers
import Derived.Lib.ConvBytes
import Derived.Laws.BytesString
import Derived.Laws.Strings
import Derived.Laws.Slices
import Derived.Laws.ResultCell
import Derived.JoinedCond
import Derived.RangeFuncWrites
import Derived.RangeFuncLeaves
import Derived.RangeFuncCalls
import Derived.RangeFuncBound
import Derived.OrdersIn
import Derived.Test.YtbapejgbjpcadaaGreatDoorRows
set_option maxHeartbeats 64000000
set_option maxRecDepth 10000
namespace Go.Fw
open Go Go.RowKit
set_option linter.unusedVariables false
section
variable {P:Program} {N:Nat} {l:List (Nat × Value)} {C:World→Prop} {d:Option Tmp} {T:TypeId} {pos:String} {af:Array Edge} {g:Option (Nat × Bool)}
theorem ex_eqlPn {t ty:TypeId} {x y:Operand} {p:Option Addr} [h:TPt P t] (hx:ev l x=some (.pointer p)) (hy:ev l y=some (.pointer none)):Ex P N l C ⟨d,.binOp .eql t x y ty,T,pos,af,g⟩ (.bool p.isNone):=by
  intro a w hA _
  simp [execOp,hA.ev hx,hA.ev hy,eqGuard_at_pointer,run_eql_pointer_nil w t p h.eq]
theorem ex_neqPn {t ty:TypeId} {x y:Operand} {p:Option Addr} [h:TPt P t] (hx:ev l x=some (.pointer p)) (hy:ev l y=some (.pointer none)):Ex P N l C ⟨d,.binOp .neq t x y ty,T,pos,af,g⟩ (.bool (!p.isNone)):=by
  intro a w hA _
  simp [execOp,hA.ev hx,hA.ev hy,eqGuard_at_pointer,run_neq_pointer_nil w t p h.eq]
theorem ex_eqlPt {t ty:TypeId} {x y:Operand} [h:TPt P t] (hx:ev l x=some (.pointer none)) (hy:ev l y=some (.pointer none)):Ex P N l C ⟨d,.binOp .eql t x y ty,T,pos,af,g⟩ (.bool true):=ex_eqlPn (h:=h) hx hy
theorem ex_eqlPf {t ty:TypeId} {x y:Operand} {p:Addr} [h:TPt P t] (hx:ev l x=some (.pointer (some p))) (hy:ev l y=some (.pointer none)):Ex P N l C ⟨d,.binOp .eql t x y ty,T,pos,af,g⟩ (.bool false):=ex_eqlPn (h:=h) hx hy
theorem ex_neqPf {t ty:TypeId} {x y:Operand} [h:TPt P t] (hx:ev l x=some (.pointer none)) (hy:ev l y=some (.pointer none)):Ex P N l C ⟨d,.binOp .neq t x y ty,T,pos,af,g⟩ (.bool false):=ex_neqPn (h:=h) hx hy
theorem ex_neqPt {t ty:TypeId} {x y:Operand} {p:Addr} [h:TPt P t] (hx:ev l x=some (.pointer (some p))) (hy:ev l y=some (.pointer none)):Ex P N l C ⟨d,.binOp .neq t x y ty,T,pos,af,g⟩ (.bool true):=ex_neqPn (h:=h) hx hy
end
theorem inB_mono {id:Nat} {Q Q':Exit→Act→World→Prop} (h:∀e a w,Q e a w→Q' e a w):∀e a w,Exit.inBlock id Q e a w→Exit.inBlock id Q' e a w:=by
  intro e a w he
  cases e<;>simp only [Exit.inBlock] at he ⊢<;>first|exact h _ _ _ he|(split at he<;>rename_i hc<;>simp only [hc]<;>exact h _ _ _ he)
theorem st_join {P:Program} {ops:Array Oper} {ls:List Oper} {a:Act} {w:World} {c2:Code} {K:Act→World→Prop} {Q:Exit→Act→World→Prop} (R:Act→World→Prop)
    (h:wpList P ops (Exit.then (c2.wp P (Exit.then R Q)) (Exit.then R Q)) ls a w) (k:∀a w,R a w→K a w):wpList P ops (Exit.then (c2.wp P (Exit.then K Q)) (Exit.then K Q)) ls a w:=by
  induction ls generalizing a w with
  |nil=>exact Code.wp_mono (then_mono k) (show c2.wp P (Exit.then R Q) a w from h)
  | cons o rest ih=>
    unfold wpList at h ⊢
    split
    · rename_i hw
      rw [if_pos hw] at h
      rcases h with h| ⟨h1,h2⟩
      · refine .inl (Oper.wp_mono (K:=wpList P ops (Exit.then (c2.wp P (Exit.then R Q)) (Exit.then R Q)) rest) (fun a w h=>ih h) ?_)
        unfold Oper.wp at *
        generalize (execOp a.eval o).run P w=r at *
        cases r with
        |ok n w'=>cases n<;>simp only [Oper.upon] at h ⊢<;>exact h
        |halt x w'=>cases x<;>simp only [Oper.upon] at h ⊢<;>exact h
      · exact .inr ⟨h1,by obtain ⟨a',w3,h3⟩:=h2;exact ⟨a',w3,h3⟩⟩
    · rename_i hw
      rw [if_neg hw] at h
      exact ih h
section
variable {w0 w:World} {M:Nat→Prop} {p q r:It}
end
theorem wp_lpk {P:Program} {a:Act} {w:World} {id:Nat} {Q0:Exit→Act→World→Prop} {c:Code} {S:Type} (I:S→Act→World→Prop) (μ:S→Nat) (R:Act→World→Prop) (s:S) (h₀:I s a w)
    (round:∀s a w,I s a w→c.wp P (Exit.then (fun a' w'=>∃s',I s' a' w'∧μ s'<μ s) (Exit.inBlock id (Exit.then R Q0))) a w) (k:∀a w,R a w→Q0 .normal a w):(Code.loop c).wp P (Exit.inBlock id Q0) a w:=
  Code.wp_mono (inB_mono (fun e a w he=>by
    cases e with
    |normal=>exact k _ _ he
    |_=>exact he)) (wp_lp I μ s h₀ round)
structure Wr (p:Prop):Prop where
  out:p
theorem EXT2 {P:Program} {N:Nat} {l:List (Nat × Value)} {C:World→Prop} {o:Oper} {v:Value} (h:Ex P N l C o v:=by
  first
  |(apply ex_load;rfl;exact cl_w (by assumption) id)
  |(apply ex_load;rfl;exact cl_rd (by assumption) id (by assumption))
  |(apply ex_load;rfl;apply cl_own;exact MEMT;assumption)
  |(apply ex_load_st;rfl;rotate_left;exact cls_rd (by assumption) id (by assumption);rfl)
  |(apply ex_eqlPf;rfl;rfl)
  |(apply ex_eqlPt;rfl;rfl)
  |(apply ex_neqPt;rfl;rfl)
  |(apply ex_neqPf;rfl;rfl)
  |(apply ex_eqlNil;rfl;rfl)
  |(apply ex_max;rfl;rfl)
  |(apply ex_rem;rfl;rfl;first|decide|omega)
  |(apply ex_quo;rfl;rfl;first|decide|omega)):Ex P N l C o v:=h
theorem STT {p:Prop} (h:p:=by first|exact hH.drop_|exact hH.pick MEMT|exact hH):p:=h
theorem FA {G:Prop} (h:G:=by
  first
  |(exfalso;have h1:=of_decide_eq_true hg;omega)
  |(exfalso;have h1:=of_decide_eq_false hg;omega)
  |exact absurd hg (by decide)):G:=h
theorem QT {G G':Prop} (k:G') (h:Wr G'→G:=by
  intro k
  first
  |(apply st_ex hA hH rfl rfl (by decide);(first|exact EXT|exact EXT2);exact k.out)
  |(apply st_skip hA rfl rfl (by decide);exact k.out)
  |((first|apply dr_ex hA rfl rfl rfl (by decide)|apply dr_exp hA rfl rfl rfl (by decide)|apply dr_ex3 hA hH rfl rfl rfl (by decide));(first|exact EXT|exact EXT2);exact k.out)
  |((first|apply dr_skip hA rfl rfl rfl (by decide)|apply dr_skip3 hA rfl rfl rfl (by decide));exact k.out)):G:=h ⟨k⟩
theorem GT {G G1 G2:Prop} (k1:G1) (k2:G2) (h:Wr G1→Wr G2→G:=by
  intro k1 k2
  first
  |(apply st_exb hA hH rfl rfl (by decide) rfl (ex_move rfl);exact k1.out;exact k2.out)
  |(apply dr_exb hA rfl rfl rfl (by decide) rfl (ex_move rfl);exact k1.out;exact k2.out)):G:=h ⟨k1⟩ ⟨k2⟩
theorem CT {G G':Prop} (k:G') (h:Wr G'→G:=by
  intro k
  first|apply wp_seq|apply wp_region_lit|apply st_nil|apply then_normal|apply wp_block|apply st_cond_t hA rfl|apply st_cond_f hA rfl|apply wp_ret|apply wp_skip|apply wp_exit|apply then_ret|apply then_exit|apply inB_normal|apply inB_ret|apply inB_eq|apply inB_ne rfl|apply dr_nil|apply dr_late|apply dr_nil2|apply wp_scope_straight|apply wp_label|apply ng_normal|apply ng_ret
  repeat (first|apply wp_seq|apply wp_region_lit|apply st_nil|apply then_normal|apply wp_block|apply st_cond_t hA rfl|apply st_cond_f hA rfl|apply wp_ret|apply wp_skip|apply wp_exit|apply then_ret|apply then_exit|apply inB_normal|apply inB_ret|apply inB_eq|apply inB_ne rfl|apply dr_nil|apply dr_late|apply dr_nil2|apply wp_scope_straight|apply wp_label|apply ng_normal|apply ng_ret)
  exact k.out):G:=h ⟨k⟩
theorem DT {G G1 G2:Prop} (k1:G1) (k2:G2) (h:Wr G1→Wr G2→G:=by
  intro k1 k2
  first
  |(apply st_cond_d hA rfl;exact k1.out;exact k2.out)
  |(apply st_cond_nd hA rfl;exact k1.out;exact k2.out)
  |(apply st_cond hA rfl;exact k1.out;exact k2.out)):G:=h ⟨k1⟩ ⟨k2⟩
theorem BT {G G':Prop} (k:G') (h:Wr G'→G:=by
  intro k
  apply st_op hA rfl rfl (by decide)
  (first|apply op_alloc|(apply op_box_agg;rfl)|(apply op_box1;rfl;rfl))
  exact hH
  exact k.out):G:=h ⟨k⟩
theorem LT {G G':Prop} (k:G') (h:Wr G'→G:=by
  intro k
  apply st_op hA rfl rfl (by decide)
  apply op_sliceLit
  rfl
  rfl
  exact CATST
  rfl
  rfl
  rfl
  exact hH
  exact k.out):G:=h ⟨k⟩
theorem AT {G G':Prop} (k:G') (h:Wr G'→G:=by
  intro k
  apply st_op hA rfl rfl (by decide)
  apply op_append
  rfl
  rfl
  exact hH
  exact MEMT
  exact hH.own_rd (List.Mem.head _)
  rfl
  rfl
  decide
  rfl
  (unfold maxLen;omega)
  omega
  exact k.out):G:=h ⟨k⟩
theorem S0T {G G':Prop} (k:G') (h:Wr G'→G:=by
  intro k
  apply st_op0 hA rfl rfl
  (first|(apply op_store1;rfl;rfl;rfl;exact hH;(repeat constructor))|(apply op_store_agg;rfl;rfl;exact hH;(repeat constructor);rfl;rfl;rfl))
  exact k.out):G:=h ⟨k⟩
theorem DSK {G G':Prop} (k:G') (h:Wr G'→G:=by
  intro k
  apply dr_opskip hA rfl rfl rfl (by decide) STT
  exact k.out):G:=h ⟨k⟩
theorem DLT {G G':Prop} (k:G') (h:Wr G'→G:=by
  intro k
  apply dr_op hA rfl rfl rfl (by decide)
  apply op_sliceLit
  rfl
  rfl
  exact CATST
  rfl
  rfl
  rfl
  exact hH
  exact k.out):G:=h ⟨k⟩
theorem DAT {G G':Prop} (k:G') (h:Wr G'→G:=by
  intro k
  apply dr_op hA rfl rfl rfl (by decide)
  apply op_append
  rfl
  rfl
  exact hH
  exact MEMT
  exact hH.own_rd (List.Mem.head _)
  rfl
  rfl
  decide
  rfl
  (unfold maxLen;omega)
  omega
  exact k.out):G:=h ⟨k⟩
theorem PMT {l r:List It} (h:l.Perm r:=by repeat (first|exact List.Perm.refl _|exact List.Perm.nil|refine perm_pick 0 rfl ?_|refine perm_pick 1 rfl ?_|refine perm_pick 2 rfl ?_|refine perm_pick 3 rfl ?_|refine perm_pick 4 rfl ?_|refine perm_pick 5 rfl ?_|refine perm_pick 6 rfl ?_|refine perm_pick 7 rfl ?_|refine perm_pick 8 rfl ?_|refine perm_pick 9 rfl ?_|refine perm_pick 10 rfl ?_|refine perm_pick 11 rfl ?_)):l.Perm r:=h
theorem SBT {l r:List (Nat × Value)} (h:Subs l r:=by (repeat (first|exact trivial|refine ⟨rfl,?_⟩));first|done|fail "sub"):Subs l r:=h
theorem XE {E K:Value→Prop} {v:Value} (e:E v) (k:K v):∃v,E v∧K v:=⟨v,e,k⟩
theorem XT {G:Prop} {E K:Value→Prop} (x:∃v,E v∧K v) (h:∀v,E v→K v→G:=by intro v e k;first|exact st_ex (v:=v) hA hH rfl rfl (by decide) e k|exact dr_ex (v:=v) hA rfl rfl rfl (by decide) e k|exact dr_exp (v:=v) hA rfl rfl rfl (by decide) e k|exact dr_ex3 (v:=v) hA hH rfl rfl rfl (by decide) e k):G:=let ⟨v,e,k⟩:=x;h v e k
theorem dTr {p:Prop} [Decidable p] (h:decide p=true):p:=of_decide_eq_true h
theorem dFa {p:Prop} [Decidable p] (h:decide p=false):¬p:=of_decide_eq_false h
theorem ENT {P:Program} {N:Nat} {w:World} {l:List (Nat × Value)} {k:FuncId} {fn:Func} {c:Code} {args:List Value} {R:Value→World→Prop} (hf:P.funcs[k]?=some fn) (hn:fn.ntmps=N) (h:∀a,Sl N l a→c.wp P (bodyPost P fn fun e w'=>∃v,e= .returned v∧R v w') a w) (hb:fn.body=some c:=by rfl) (hle0:Nat.ble args.length N=true:=by rfl) (hl:sl0 0 args=l:=by dsimp only [sl0,Nat.reduceAdd]<;>exact rfl):Ret P k args.toArray w R:=enter hf hb hn hle0 fun a hA=>h a (hl▸hA)
theorem SAT {P:Program} {N:Nat} {l:List (Nat × Value)} {a:Act} {Ds:List Deferred} {w0 w:World} {M:Nat→Prop} {H H':List It} {ops:Array Oper} {rest:List Oper} {Q:Exit→Act→World→Prop} {T:TypeId} {pos:String} {af:Array Edge} {g:Option (Nat × Bool)} {t sz by_ b Tb:Nat} {z:Value} {zs cs:List Value} {x y:Operand} [hi:TIf P t z zs sz by_] (vs:List Value) (hA:Sl N l a Ds) (hH:HS w0 M H w) (k:∀w,HS w0 M H' w→wpList P ops Q rest a w)
    (hg:gd ops l g=some true:=by rfl) (hx:ev l x=some (.pointer (some (bat b 0))):=by rfl) (hy:ev l y=some (.agg vs.toArray):=by rfl) (hr:Rp H (cb b Tb cs) (cb b Tb vs) H':=by repeat constructor) (hl:vs.length=sz:=by rfl) (hl2:cs.length=sz:=by rfl) (h1:vs.all (·.oneCell')=true:=by rfl):wpList P ops Q (⟨none,.store t x y,T,pos,af,g⟩::rest) a w:=
  st_op0 hA hg rfl (op_store_agg hx hy hH hr hl hl2 h1) fun _ w' h=>k w' h
theorem FLT {P:Program} {fl:List (Nat × Nat)} (h:∀p∈fl,∃i,P.info? p.1=some i∧i.size=1:=by (repeat (first|(intro _ h;exact absurd h (List.not_mem_nil))|(refine List.forall_mem_cons.2 ⟨one_cell_of _ _,?_⟩)))):∀p∈fl,∃i,P.info? p.1=some i∧i.size=1:=h
inductive Pl where
  |nil
  |q (i:Nat) (t:Pl)
  |one (i:Nat) (t:Pl)
  |two (i j:Nat) (t u:Pl)
def Pl.len:Pl→Nat
  | .nil=>0
  | .q _ t=>t.len+1
  | .one _ t=>t.len+1
  | .two _ _ t _=>t.len+1
def okT (ops:Array Oper):Pl→Array Bool→Bool
  | .nil,listed=>decide (Region.ready .any ops listed=[])
  | .q i t,listed=>(Region.ready .any ops listed).contains i && Region.free .any ops listed i && okT ops t (listed.setIfInBounds i true)
  | .one i t,listed=>decide (Region.ready .any ops listed=[i]) && okT ops t (listed.setIfInBounds i true)
  | .two i j t u,listed=>Nat.beq t.len u.len && decide (Region.ready .any ops listed=[i,j]) && okT ops t (listed.setIfInBounds i true) && okT ops u (listed.setIfInBounds j true)
section
variable {P:Program} {ops:Array Oper} {S:World→Prop} {Q:Exit→Act→World→Prop} {K:Act→World→Prop}
end
section
variable {P:Program} {N:Nat} {l:List (Nat × Value)} {a:Act} {Ds:List Deferred} {w:World} {ops:Array Oper} {S:World→Prop} {Q:Exit→Act→World→Prop} {K:Act→World→Prop} {i j:Nat} {t u:Pl}
end
section
variable {P:Program} {N:Nat} {l:List (Nat × Value)} {C:World→Prop} {d:Option Tmp} {T:TypeId} {pos:String} {af:Array Edge} {g:Option (Nat × Bool)}
theorem push_ofB (l:List Nat):∀(s:ByteArray),((l.map fun (b:Nat)=>(b:Int)).foldl (fun r n=>r.push (UInt8.ofNat n.toNat)) s)=⟨s.data++(l.map UInt8.ofNat).toArray⟩:=by
  induction l with
  |nil=>intro s;simp
  | cons b l ih=>
    intro s
    rw [List.map_cons,List.foldl_cons,ih]
    simp [ByteArray.push]
theorem bytes_kp (w:World) (e:TypeId) (s:ByteArray):Kp w noM (Lib.bytesWorld w e s) where
  os:=by unfold Lib.bytesWorld World.freeze;split<;>rfl
  tape:=by unfold Lib.bytesWorld World.freeze;split<;>rfl
  output:=by unfold Lib.bytesWorld World.freeze;split<;>rfl
  size:=by rw [Lib.bytesWorld_size];omega
  block:=fun b hb _=>Lib.bytesWorld_at_old w e s b hb
end
def fzI (K:World→Prop):It where
  sat w F:=(∀b,F b→b<w.heap.size)∧∀w':World,(∀b,F b→w'.heap[b]?=w.heap[b]?)→K w'
  loc:=fun {w w' F} ⟨h1,h2⟩ he=>⟨fun b hb=>by
    have h3:=he b hb
    rw [Array.getElem?_eq_getElem (h1 b hb)] at h3
    exact lt_of_heap h3,fun w2 h3=>h2 w2 fun b hb=>(h3 b hb).trans (he b hb)⟩
  lt:=fun ⟨h1,_⟩ b hb=>h1 b hb
  ext:=fun ⟨h1,h2⟩ he=>⟨fun b hb=>h1 b ((he b).2 hb),fun w' h3=>h2 w' fun b hb=>h3 b ((he b).1 hb)⟩
section
variable {w0 w w':World} {M:Nat→Prop} {H L:List It} {K K1 K2:World→Prop}
theorem fz_sat {F:Nat→Prop} (h:(fzI K).sat w F):K w:=h.2 w fun _ _=>rfl
theorem HS.fz (h:HS w0 M H w) (hm:fzI K∈H):K w:=
  let ⟨_,hF⟩:=h.sat hm
  fz_sat hF
end
open Go Go.ChangeShapes Go.WideShapes Go.ChangeAt Go.RowKit
section
variable {H:Type} {enc:TypeId × Value→H}
end
def Nml (K:Act→World→Prop):Exit→Act→World→Prop
  | .normal,a,w=>K a w
  |_,_,_=>False
theorem Nml.noOut {K:Act→World→Prop}:¬LetsOut (Nml K):=fun ⟨_,_,h⟩=>h
def noDefer (ops:Array Oper):Bool:=ops.toList.all fun o=>match o.op with
  | .defer _=>false
  |_=>true
theorem noDefer_at {ops:Array Oper} (h:noDefer ops=true) {i:Nat} {o:Oper} (hi:ops[i]?=some o) (c:Call):o.op≠.defer c:=fun e=>by
  have h1:=List.all_eq_true.1 h o (by
    have:=List.mem_of_getElem? (l:=ops.toList) (i:=i) (a:=o) (by simpa using hi)
    exact this)
  rw [e] at h1
  cases h1
section
variable {P:Program} {a:Act} {w:World} {Q Q':Exit→Act→World→Prop} {K K':Act→World→Prop} {l n:Nat}
theorem op_lift {o:Oper} (hd:∀c,o.op≠.defer c) (h:o.wp P a w K Q) (hK:∀a w,K a w→K' a w) (hQ:∀e a w,Q e a w→Q' e a w):o.wpIn (Fence.wide.inRound l) n P a w K' Q':=by
  refine ⟨fun _ _=>trivial,?_⟩
  rw [show (Fence.wide.inRound l).round=some l from rfl,Oper.semAt_some l _ _ hd]
  unfold Oper.wp at h
  generalize (execOp a.eval o).run P w=r at h ⊢
  cases r with
  | ok v w'=>
    cases v with
    |value v=>exact hK _ _ h
    |skip=>exact hK _ _ h
    |defer d=>exact hK _ _ h
    | enter f args=>
      refine ⟨(fun h=>by cases h),CallsIn.inRound l (callsIn_wide.2 (Calls.mono h fun e w' he=>?_))⟩
      cases e with
      |returned v=>exact hK _ _ he
      |panicked ch=>exact hQ _ _ _ he
      |outgrown=>exact he.imp fun a=>Exists.imp fun w=>hQ _ _ _
    | row row args=>
      refine ⟨(fun h=>by cases h),fun c cs _=>?_⟩
      obtain ⟨v,w',hv,hs⟩:=h c cs
      exact ⟨v,w',hK _ _ hv,stepsIn_wide.2 hs⟩
    |_=>exact (h:False).elim
  | halt s w'=>
    cases s with
    |panic v=>exact hQ _ _ _ h
    |_=>exact (h:False).elim
theorem ops_lift {ops:Array Oper} (hd:noDefer ops=true) (hO:¬LetsOut Q) (hQ:∀e a w,Q e a w→Q' e a w):∀(order:List Nat) (a:Act) (w:World),wpOps P ops Q order a w→wpOpsIn (Fence.wide.inRound l) n P ops Q' order a w
  | [],a,w,h=>hQ _ _ _ h
  | i ::rest,a,w,h=>by
    unfold wpOps at h
    unfold wpOpsIn
    cases hi:ops[i]? with
    |none=>rw [hi] at h;exact ops_lift hd hO hQ rest a w h
    | some o=>
      rw [hi] at h
      dsimp only at h ⊢
      split
      · rename_i hw
        rw [if_pos hw] at h
        rcases h with h| ⟨_,h⟩
        · exact op_lift (noDefer_at hd hi) h (fun a w h=>ops_lift hd hO hQ rest a w h) hQ
        · exact absurd h hO
      · rename_i hw
        rw [if_neg hw] at h
        exact ⟨fun _ _=>trivial,ops_lift hd hO hQ rest _ w h⟩
theorem rd_region {id:Nat} {ops:Array Oper} (hd:noDefer ops=true) (h:wpList P ops (Nml fun a w=>Q .normal a w) ops.toList a w):(Code.region id ops false).wpIn (Fence.wide.inRound l) n P Q a w:=by
  refine wpIn_region (ops_lift hd Nml.noOut (fun e a w he=>?_) _ _ _ (by rw [List.range_eq_range',←Array.length_toList,wpOps_eq_wpList ops.toList 0 (by simp)];exact h))
  cases e<;>first|exact he|exact (he:False).elim
end

def dmk (D:Nat):Deferred:={target:=.collected D,args:=#[]}
def dfi (D:Nat):It:=blk D (.deferred (some []))
theorem HS.put {w0 w:World} {M:Nat→Prop} {H:List It} {b:Nat} {o o':Obj} (h:HS w0 M (blk b o::H) w):HS w0 M (blk b o'::H) (w.putObj b o'):=by
  refine h.turn .here fun F ⟨h1,h2⟩=>⟨⟨rfl,rfl,rfl,by simp [World.putObj],fun i hi hn=>?_⟩,F,⟨h1,World.putObj_heap_same (lt_of_heap h2)⟩,fun b hb=>.inr hb⟩
  exact World.putObj_heap_other fun e=>hn (e▸(h1 b).2 rfl)
theorem HS.blk_at {w0 w:World} {M:Nat→Prop} {H:List It} {b:Nat} {o:Obj} (h:HS w0 M H w) (hm:blk b o∈H):w.heap[b]?=some o:=by
  obtain ⟨F,_,h2⟩:=h.sat hm
  exact h2
section
variable {P:Program} {N:Nat} {w:World}
theorem enterM {k:FuncId} {fn:Func} {c:Code} {args:List Value} {R:Value→World→Prop} (hf:P.funcs[k]?=some fn) (hb:fn.body=some c) (hn:fn.ntmps=N) (hle0:Nat.ble args.length N=true)
    (h:∀a,Sl N (sl0 0 args) a→c.wp P (bodyPostM Fence.wide 4 P fn fun e w'=>∃v,e= .returned v∧R v w') a w):Ret P k args.toArray w R:=by
  have hle:=Nat.le_of_ble_eq_true hle0
  refine callsIn_wide.1 (callsIn_of_wp_marks (F:=Fence.wide) (n:=4) hf hb trivial (wpIn_wide.2 (h _ ⟨⟨?_,fun i v hi=>?_⟩,rfl⟩)))
  · simp [hn];omega
  · obtain ⟨_,h2⟩:=lk_sl0 args 0 i v hi
    have hlt:i<args.length:=(List.getElem?_eq_some_iff.1 h2).1
    rw [Array.getElem?_append_left (by simpa using hlt)]
    simpa using h2
theorem leave_marks {n:Nat} {fn:Func} {tmps:Array Value} {R:Ending→World→Prop} {w0:World} {M:Nat→Prop} {H:List It}:∀(L:List Nat) (w:World),HS w0 M (L.map dfi++H) w→
    (∀w',HS w0 M H w'→∃v,(results fn tmps).run P w'= .ok v w'∧R (.returned v) w')→LeavesInM Fence.wide n P fn tmps R (L.map dmk) .returning w
  | [],w,hH,h=>h w hH
  | D::L,w,hH,h=>by
    have hD:=hH.blk_at (.head _)
    exact ⟨(fun h=>by cases h),.inl ⟨D,w.putObj D (.deferred none),rfl,run_takeDeferred hD,leave_marks L _ (HS.put (o':=.deferred none) hH).tail h⟩⟩
theorem rt1M {fn:Func} {R:Value→World→Prop} {l:List (Nat × Value)} {a:Act} {t:Tmp} {v:Value} {e:Exit} {L:List Nat} {w0:World} {M:Nat→Prop} {H:List It} (he:e= .ret∨e= .normal) (hr:fn.results=#[.tmp t]) (hA:Sl N l a (L.map dmk)) (hv:lk l t=some v)
    (hH:HS w0 M (all (L.map dfi)::H) w) (h:∀w,HS w0 M H w→R v w) :
    bodyPostM Fence.wide 4 P fn (fun e w'=>∃v,e= .returned v∧R v w') e a w:=by
  have hg:a.tmps.getD t undef=v:=by simp [Array.getD_eq_getD_getElem?,hA.get t v hv]
  have key:LeavesInM Fence.wide 4 P fn a.tmps (fun e w'=>∃v,e= .returned v∧R v w') a.defers .returning w:=by
    rw [hA.defers]
    exact leave_marks L w hH.open_ fun w' h'=>⟨v,by rw [results_tmp hr,hg],v,rfl,h w' h'⟩
  rcases he with rfl|rfl
  · exact key
  · exact key
theorem wp_range {g:Operand} {ps:Array Tmp} {assign body:Code} {Q:Exit→Act→World→Prop} {a:Act} {l0:List (Nat × Value)} {Ds:List Deferred} {w0:World} {gf:Nat} {lb:Array Value} [hfn:FnB P gf] (its:Nat→List It) (encs:Nat→Array Value) (n:Nat)
    (hA:Sl N l0 a Ds) (hg:ev l0 g=some (.func (.func gf) #[] lb)) (hps:∀i,(encs i).size=ps.size) (hH:HS w0 noM (its n) w)
    (hiter:∀(l:Nat) (X Y:It) (W:World),(∀i W1,i<n→HS w0 noM (X::Y::its (i+1)) W1→YieldAt Fence.wide 2 P l (encs i) W1 (fun e W'=>e= .returned (.bool true)∧HS w0 noM (X::Y::its i) W'))→
      HS w0 noM (X::Y::its n) W→CallsIn Fence.wide 3 P gf (#[.func (.yield l) #[] #[]]++lb) W (fun e W'=>(∃v,e= .returned v)∧HS w0 noM (X::Y::its 0) W'))
    (hbody:∀(l:Nat) (X Y:It) (i:Nat) (W:World),i<n→HS w0 noM (X::Y::its (i+1)) W→
      assign.wpIn (Fence.wide.inRound l) 2 P (Nml fun a1 W1=>∃H1,HS w0 noM (X::H1) W1∧∀X' W2,HS w0 noM (X'::H1) W2→body.wpIn (Fence.wide.inRound l) 2 P (Nml fun _ W3=>HS w0 noM (X'::Y::its i) W3) a1 W2)
        {tmps:=(ps.zip (encs i)).foldl (fun t (p,v)=>t.setIfInBounds p v) a.tmps,defers:=[]} W)
    (hdone:∀(D:Nat) (a':Act) (W:World),Sl N l0 a' (dmk D::Ds)→HS w0 noM (dfi D::its 0) W→Q .normal a' W) :
    (Code.rangeFunc g ps assign body).wp P Q a w:=by
  refine (wpIn_wide (n:=4)).1 (wpIn_rangeFunc ?_)
  intro fn hfn'
  obtain ⟨rec,hrec⟩:∃rec:LoopState→Loop,rec=fun st=>{state:=st,pending:=none,fn,tmps:=a.tmps,params:=ps,assign,body,defers:=w.heap.size}:=⟨_,rfl⟩
  have h1:HS w0 noM (blk (w.heap.size+1) (.loop (rec .ready))::dfi w.heap.size::its n) ((w.alloc (.deferred (some []))).alloc (.loop (rec .ready))):=by
    have:=(hH.come_blk (.deferred (some []))).come_blk (.loop (rec .ready))
    rwa [World.size_alloc] at this
  obtain ⟨W1,hW1⟩:∃W1,(w.alloc (.deferred (some []))).alloc (.loop (rec .ready))=W1:=⟨_,rfl⟩
  rw [hW1] at h1
  have eg:∀args w,(callFunc gf args).run P w= .ok (.enter gf args) w:=by
    obtain ⟨fn,e1,e2,e3⟩:=hfn.eq
    intro args w
    have e2':fn.body.isNone=false:=by cases hb:fn.body<;>simp_all
    simp only [callFunc,Sem.run_bind,run_program,Result.andThen_ok,e1,e3,e2',Bool.false_eq_true,if_false]
    rfl
  refine ⟨w.heap.size+1,[dmk w.heap.size],W1,{target:=.fn (.func gf) lb,args:=#[.func (.yield (w.heap.size+1)) #[] #[]]},W1,gf,
    #[.func (.yield (w.heap.size+1)) #[] #[]]++lb,W1,?_,?_,fun _ _=>trivial,?_,(fun h=>by cases h),?_⟩
  · rw [←hW1,hrec];exact run_enterLoop_outer _ _ _ _ _
  · simp only [resolve,rangeCall,hA.ev hg]
    simp [go_sem]
  · simp [invoke,go_sem,eg]
  · refine (hiter (w.heap.size+1) (blk (w.heap.size+1) (.loop (rec .ready))) (dfi w.heap.size) W1 (fun i W hi hW=>?_) h1).mono ?_
    · have hl:=hW.blk_at (.head _)
      have hy:=run_yield (P:=P) (args:=encs i) hl (by rw [hrec];exact hps i)
      rw [hrec] at hy
      refine ⟨fn,_,assign,body,hy,roundIn_of_wpIn hfn' (wpIn_mono (hbody _ _ _ i W hi hW) fun e a1 W2 he=>?_)⟩
      cases e with
      | normal=>
        obtain ⟨H1,h2,h3⟩:=he
        have hl2:=h2.blk_at (.head _)
        refine ⟨_,run_beginRound hl2 (by rw [hrec]),?_⟩
        refine wpIn_mono (h3 (blk (w.heap.size+1) (.loop {rec .ready with state:=.busy})) _ h2.put) fun e a3 W4 he4=>?_
        cases e with
        | normal=>
          have hl4:=HS.blk_at (he4:HS w0 noM _ W4) (.head _)
          have h5:=HS.put (o':=.loop (rec .ready)) (he4:HS w0 noM _ W4)
          refine ⟨_,_,run_endRound (P:=P) none hl4,rfl,?_⟩
          rw [hrec] at h5 ⊢
          exact h5
        |_=>exact (he4:False).elim
      |_=>exact (he:False).elim
    · rintro e W2 ⟨⟨v,rfl⟩,h2⟩
      have hl:=h2.blk_at (.head _)
      refine ⟨none,_,by have:=run_endLoop (P:=P) hl (by rw [hrec];simp);rw [hrec] at this;exact this,?_⟩
      refine hdone w.heap.size _ _ ⟨⟨hA.size,hA.get⟩,?_⟩ (HS.put h2).tail
      show [dmk w.heap.size]++a.defers=_
      rw [hA.defers]
      rfl
end
section
variable {P:Program} {N:Nat} {l:List (Nat × Value)} {a:Act} {Ds:List Deferred} {w:World} {ops:Array Oper} {rest:List Oper} {Q:Exit→Act→World→Prop} {d:Nat} {T:TypeId} {pos:String} {af:Array Edge}
theorem in_region {id:Nat} (h:wpListIn Fence.wide 3 P ops Q ops.toList a w):(Code.region id ops false).wp P Q a w:=(wpIn_wide (n:=3)).1 (wpIn_region_list h)
theorem in_nil (h:Q .normal a w):wpListIn Fence.wide 3 P ops Q [] a w:=h
theorem in_ex {C:World→Prop} {o:Oper} {v:Value} (hA:Sl N l a Ds) (hC:C w) (hg:gd ops l o.guard=some true) (hd:o.dst=some d) (hdN:d<N)
    (h:Ex P N l C o v) (k:∀a',Sl N ((d,v)::l) a' Ds→wpListIn Fence.wide 3 P ops Q rest a' w):wpListIn Fence.wide 3 P ops Q (o::rest) a w:=by
  unfold wpListIn
  rw [if_pos (hA.gd hg)]
  refine ⟨fun _ _=>trivial,?_⟩
  rw [show Fence.wide.round=none from rfl,Oper.semAt_none,h a w hA.toSl0 hC]
  show wpListIn _ _ _ _ _ _ (a.put o.dst v) w
  rw [hd]
  exact k _ (hA.put hdN v)
theorem in_yield {f:Operand} {args:Array Operand} {ats:Array TypeId} {vs:List Value} {lp:Nat} {R:Value→World→Prop} (hA:Sl N l a Ds) (hdN:d<N) (hf:ev l f=some (.func (.yield lp) #[] #[])) (hv:evL l args.toList=some vs)
    (h:YieldAt Fence.wide 2 P lp vs.toArray w (fun e w'=>∃v,e= .returned v∧R v w'))
    (k:∀v w',R v w'→∀a',Sl N ((d,v)::l) a' Ds→wpListIn Fence.wide 3 P ops Q rest a' w'):wpListIn Fence.wide 3 P ops Q (⟨some d,.call ⟨.value f,args,ats⟩,T,pos,af,none⟩::rest) a w:=by
  have hvs:args.map a.eval=vs.toArray:=by
    have:=hA.evL hv
    apply Array.ext'
    simpa using this
  obtain ⟨fn,tmps,assign,body,hy,hr⟩:=h
  unfold wpListIn
  rw [if_pos (hA.gd rfl)]
  refine ⟨fun _ _=>trivial,?_⟩
  rw [show Fence.wide.round=none from rfl,Oper.semAt_none]
  simp only [execOp,resolve,hvs,hA.ev hf,Deferred.ofValue,Sem.run_bind,Sem.run_pure,Result.andThen_ok,invoke,Array.empty_append,hy,Oper.uponIn_round]
  refine ⟨(fun h=>by cases h),hr.mono ?_⟩
  rintro e w' ⟨v,rfl,hR⟩
  exact k v w' hR _ (hA.put hdN v)
end
open Go
def encK (ks:List Int):List (Int × Value):=ks.map fun k=>(k,.bool true)
def sk (b:Nat) (ks:List Int):It:=mp b (encK ks)
def sadd (ks:List Int) (k:Int):List Int:=if k∈ks then ks else ks++[k]
theorem mem_sadd {ks:List Int} {k x:Int}:x∈sadd ks k↔x∈ks∨x=k:=by
  unfold sadd
  split
  · exact ⟨.inl,fun h=>h.elim id fun e=>e▸(by assumption)⟩
  · rw [List.mem_append,List.mem_singleton]
theorem mv_encK (ks:List Int) (k:Int):mv (encK ks) k=if k∈ks then some (.bool true) else none:=by
  unfold mv encK
  induction ks with
  |nil=>rfl
  | cons x ks ih=>
    rw [List.map_cons,List.find?_cons]
    by_cases h:x=k
    · subst h;simp
    · have hb:(x == k)=false:=by simpa using h
      simp only [hb]
      rw [ih]
      have:k≠x:=fun e=>h e.symm
      simp [this]
theorem mset_encK (ks:List Int) (k:Int):mset (encK ks) k (.bool true)=encK (sadd ks k):=by
  unfold mset sadd
  rw [mv_encK]
  by_cases h:k∈ks
  · rw [if_pos h,if_pos h]
    show List.map _ (encK ks)=_
    unfold encK
    rw [List.map_map]
    refine List.map_congr_left fun x hx=>?_
    simp only [Function.comp_def]
    split
    · rename_i e
      have:x=k:=by simpa using e
      rw [this]
    · rfl
  · rw [if_neg h,if_neg h]
    simp [encK]
structure ElK (el:List (Int × Nat)) (clock:Nat):Prop where
  keys:(el.map (·.1)).Nodup
  borns:(el.map (·.2)).Nodup
  lt:∀e∈el,e.2<clock
def mkK (e:Int × Nat):Int × Value × Nat:=(e.1,.bool true,e.2)
theorem ElK.es {el:List (Int × Nat)} {clock:Nat} (h:ElK el clock):EsOk (el.map mkK) clock:=
  ⟨by simpa [mkK,Function.comp_def] using h.keys,by simpa [mkK,Function.comp_def] using h.borns,fun e he=>by
    obtain ⟨e',he',rfl⟩:=List.mem_map.1 he
    exact h.lt e' he'⟩
theorem HS.up {w0 w:World} {M:Nat→Prop} {H:List It} {x:It} (h:HS w0 M H w) (i:Nat) (hi:H[i]?=some x):HS w0 M (x::H.eraseIdx i) w:=h.perm (perm_pick0 i hi)
section
variable {P:Program} {N:Nat} {l:List (Nat × Value)} {a:Act} {d:Option Tmp} {T:TypeId} {pos:String} {af:Array Edge} {g:Option (Nat × Bool)}
theorem op_makeMapK {t:Nat} {w0 w:World} {M:Nat→Prop} {H:List It} (hH:HS w0 M H w) :
    Op1 P N l ⟨d,.makeMap t none,T,pos,af,g⟩ w (fun v w'=>∃b,v= .map (some b)∧HS w0 M (sk b []::H) w'):=op_makeMap hH
theorem op_addK {t kt e b:Nat} {kk:IntKind} {x y z:Operand} {ks:List Int} {k:Int} {w0 w:World} {M:Nat→Prop} {H H':List It} [ht:TMp P t kt e] [hk:TIn P kt kk]
    (hx:ev l x=some (.map (some b))) (hy:ev l y=some (.int .i64 k)) (hz:ev l z=some (.bool true)) (hH:HS w0 M H w) (hr:Rp H (sk b ks) (sk b (sadd ks k)) H') :
    Op1 P N l ⟨d,.mapUpdate t x y z,T,pos,af,g⟩ w (fun _ w'=>HS w0 M H' w'):=by
  unfold sk at hr
  rw [←mset_encK] at hr
  exact op_mapUpdate hx hy hz hH hr
theorem ex_hasK {t kt e sz by_ b:Nat} {kk:IntKind} {zs:List Value} {x y:Operand} {ks:List Int} {k:Int} {w0:World} {M:Nat→Prop} {H:List It} [ht:TMp P t kt e] [hk:TIn P kt kk] [hi:TIf P e (.bool false) zs sz by_]
    (hx:ev l x=some (.map (some b))) (hy:ev l y=some (.int .i64 k)) (hm:sk b ks∈H):Ex P N l (HS w0 M H) ⟨d,.lookup t x y false,T,pos,af,g⟩ (.bool (decide (k∈ks))):=by
  have h:=ex_lookup (P:=P) (N:=N) (l:=l) (d:=d) (T:=T) (pos:=pos) (af:=af) (g:=g) (t:=t) (w0:=w0) (M:=M) (hi:=hi) hx hy hm
  rw [mv_encK] at h
  by_cases hk:k∈ks
  · rw [if_pos hk] at h;rw [decide_eq_true hk];exact h
  · rw [if_neg hk] at h;rw [decide_eq_false hk];exact h
end
class TAr (P:Program) (t:TypeId) (n:outParam Nat) (e:outParam TypeId):Prop where
  eq:P.underlying t=some (.array n e)
section
variable {P:Program} {N:Nat} {l:List (Nat × Value)} {a:Act} {C:World→Prop} {d:Option Tmp} {T:TypeId} {pos:String} {af:Array Edge} {g:Option (Nat × Bool)}
end
inductive Pl3 where
  |nil
  |q (i:Nat) (t:Pl3)
  |one (i:Nat) (t:Pl3)
  |two (i j:Nat) (t u:Pl3)
  |three (i j k:Nat) (t u v:Pl3)
def Pl3.len:Pl3→Nat
  | .nil=>0
  | .q _ t=>t.len+1
  | .one _ t=>t.len+1
  | .two _ _ t _=>t.len+1
  | .three _ _ _ t _ _=>t.len+1
section
variable {P:Program} {ops:Array Oper} {S:World→Prop} {Q:Exit→Act→World→Prop} {K:Act→World→Prop}
end
section
variable {P:Program} {N:Nat} {l:List (Nat × Value)} {a:Act} {Ds:List Deferred} {w:World} {ops:Array Oper} {S:World→Prop} {Q:Exit→Act→World→Prop} {K:Act→World→Prop} {i j m:Nat} {t u v:Pl3}
end
class TNi (P:Program) (t:TypeId):Prop where
  eq:∃d,P.underlying t=some d∧(match d with| .interface _=>true|_=>false)=false
class TIc (P:Program) (t:TypeId):Prop where
  eq:∃ms,P.underlying t=some (.interface ms)
section
variable {P:Program} {N:Nat} {l:List (Nat × Value)} {C:World→Prop} {d:Option Tmp} {T:TypeId} {pos:String} {af:Array Edge} {g:Option (Nat × Bool)}
theorem run_eqlI0 (w:World) (D:Nat) (t:TypeId) {ms:Array (String × TypeId)} (h:P.underlying t=some (.interface ms)):(Op.equalIn (D+1) t .nilIface .nilIface).run P w= .ok true w:=by
  simp [Op.equalIn,run_underlying h]
theorem run_eqlI1 (w:World) (D:Nat) (t s:TypeId) (v:Value) {ms:Array (String × TypeId)} (h:P.underlying t=some (.interface ms)):(Op.equalIn (D+1) t (.iface s v) .nilIface).run P w= .ok false w:=by
  simp [Op.equalIn,run_underlying h]
end
section
variable {P:Program} {ops:Array Oper} {S:World→Prop} {Q:Exit→Act→World→Prop} {π2 ps:List Nat}
end
section
variable {P:Program} {N:Nat} {l:List (Nat × Value)} {a:Act} {Ds:List Deferred} {w:World} {ops:Array Oper} {S:World→Prop} {Q:Exit→Act→World→Prop} {π2 ps:List Nat} {i j:Nat} {t u:Pl}
end
end Go.Fw
namespace Go.Proofs.YtbapejgbjpcadaaGreatDoor
open Go Go.Fw
set_option maxRecDepth 100000
instance:TSc Tryz.prog 1:=⟨_,Tryz.underlying1,rfl⟩
instance:TIf Tryz.prog 1 .nilFunc [.nilFunc] 1 8:=⟨⟨Tryz.t1,rfl,rfl,rfl,rfl⟩,rfl⟩
instance:TSc Tryz.prog 2:=⟨_,Tryz.underlying2,rfl⟩
instance:TIn Tryz.prog 2 .i64:=⟨Tryz.underlying2⟩
instance:TIf Tryz.prog 2 (.int .i64 0) [(.int .i64 0)] 1 8:=⟨⟨Tryz.t2,rfl,rfl,rfl,rfl⟩,rfl⟩
instance:TSc Tryz.prog 3:=⟨_,Tryz.underlying3,rfl⟩
instance:TIn Tryz.prog 3 .i64:=⟨Tryz.underlying3⟩
instance:TIf Tryz.prog 3 (.int .i64 0) [(.int .i64 0)] 1 8:=⟨⟨Tryz.t3,rfl,rfl,rfl,rfl⟩,rfl⟩
instance:TSc Tryz.prog 4:=⟨_,Tryz.underlying4,rfl⟩
instance:TBo Tryz.prog 4:=⟨Tryz.underlying4⟩
instance:TIf Tryz.prog 4 (.bool false) [(.bool false)] 1 1:=⟨⟨Tryz.t4,rfl,rfl,rfl,rfl⟩,rfl⟩
instance:TSc Tryz.prog 5:=⟨_,Tryz.underlying5,rfl⟩
instance:TIn Tryz.prog 5 .u8:=⟨Tryz.underlying5⟩
instance:TIf Tryz.prog 5 (.int .u8 0) [(.int .u8 0)] 1 1:=⟨⟨Tryz.t5,rfl,rfl,rfl,rfl⟩,rfl⟩
instance:TSc Tryz.prog 6:=⟨_,Tryz.underlying6,rfl⟩
instance:TIn Tryz.prog 6 .u8:=⟨Tryz.underlying6⟩
instance:TIf Tryz.prog 6 (.int .u8 0) [(.int .u8 0)] 1 1:=⟨⟨Tryz.t6,rfl,rfl,rfl,rfl⟩,rfl⟩
instance:TSt Tryz.prog 7 [(2,0),(3,1),(4,2),(6,3)]:=⟨⟨_,Tryz.underlying7,rfl⟩,List.forall_mem_cons.2 ⟨⟨Tryz.t2,rfl,by decide⟩,List.forall_mem_cons.2 ⟨⟨Tryz.t3,rfl,by decide⟩,List.forall_mem_cons.2 ⟨⟨Tryz.t4,rfl,by decide⟩,List.forall_mem_cons.2 ⟨⟨Tryz.t6,rfl,by decide⟩,nofun⟩⟩⟩⟩⟩
instance:TIf Tryz.prog 7 (.agg #[(.int .i64 0),(.int .i64 0),(.bool false),(.int .u8 0)]) [(.int .i64 0),(.int .i64 0),(.bool false),(.int .u8 0)] 4 24:=⟨⟨Tryz.t7,rfl,rfl,rfl,rfl⟩,rfl⟩
instance:TSt Tryz.prog 8 [(2,0),(3,1),(4,2),(6,3)]:=⟨⟨_,Tryz.underlying8,rfl⟩,List.forall_mem_cons.2 ⟨⟨Tryz.t2,rfl,by decide⟩,List.forall_mem_cons.2 ⟨⟨Tryz.t3,rfl,by decide⟩,List.forall_mem_cons.2 ⟨⟨Tryz.t4,rfl,by decide⟩,List.forall_mem_cons.2 ⟨⟨Tryz.t6,rfl,by decide⟩,nofun⟩⟩⟩⟩⟩
instance:TIf Tryz.prog 8 (.agg #[(.int .i64 0),(.int .i64 0),(.bool false),(.int .u8 0)]) [(.int .i64 0),(.int .i64 0),(.bool false),(.int .u8 0)] 4 24:=⟨⟨Tryz.t8,rfl,rfl,rfl,rfl⟩,rfl⟩
instance:TSc Tryz.prog 9:=⟨_,Tryz.underlying9,rfl⟩
instance:TSr Tryz.prog 9:=⟨Tryz.underlying9⟩
instance:TIf Tryz.prog 9 (.string ByteArray.empty) [(.string ByteArray.empty)] 1 16:=⟨⟨Tryz.t9,rfl,rfl,rfl,rfl⟩,rfl⟩
instance:TSc Tryz.prog 10:=⟨_,Tryz.underlying10,rfl⟩
instance:TSr Tryz.prog 10:=⟨Tryz.underlying10⟩
instance:TIf Tryz.prog 10 (.string ByteArray.empty) [(.string ByteArray.empty)] 1 16:=⟨⟨Tryz.t10,rfl,rfl,rfl,rfl⟩,rfl⟩
instance:TSc Tryz.prog 11:=⟨_,Tryz.underlying11,rfl⟩
instance:TSr Tryz.prog 11:=⟨Tryz.underlying11⟩
instance:TIf Tryz.prog 11 (.string ByteArray.empty) [(.string ByteArray.empty)] 1 16:=⟨⟨Tryz.t11,rfl,rfl,rfl,rfl⟩,rfl⟩
instance:TSc Tryz.prog 12:=⟨_,Tryz.underlying12,rfl⟩
instance:TIn Tryz.prog 12 .u64:=⟨Tryz.underlying12⟩
instance:TIf Tryz.prog 12 (.int .u64 0) [(.int .u64 0)] 1 8:=⟨⟨Tryz.t12,rfl,rfl,rfl,rfl⟩,rfl⟩
instance:TSt Tryz.prog 13 [(9,0),(12,1)]:=⟨⟨_,Tryz.underlying13,rfl⟩,List.forall_mem_cons.2 ⟨⟨Tryz.t9,rfl,by decide⟩,List.forall_mem_cons.2 ⟨⟨Tryz.t12,rfl,by decide⟩,nofun⟩⟩⟩
instance:TIf Tryz.prog 13 (.agg #[(.string ByteArray.empty),(.int .u64 0)]) [(.string ByteArray.empty),(.int .u64 0)] 2 24:=⟨⟨Tryz.t13,rfl,rfl,rfl,rfl⟩,rfl⟩
instance:TSt Tryz.prog 14 [(9,0),(12,1)]:=⟨⟨_,Tryz.underlying14,rfl⟩,List.forall_mem_cons.2 ⟨⟨Tryz.t9,rfl,by decide⟩,List.forall_mem_cons.2 ⟨⟨Tryz.t12,rfl,by decide⟩,nofun⟩⟩⟩
instance:TIf Tryz.prog 14 (.agg #[(.string ByteArray.empty),(.int .u64 0)]) [(.string ByteArray.empty),(.int .u64 0)] 2 24:=⟨⟨Tryz.t14,rfl,rfl,rfl,rfl⟩,rfl⟩
instance:TSc Tryz.prog 15:=⟨_,Tryz.underlying15,rfl⟩
instance:TPt Tryz.prog 15:=⟨by unfold Program.pointee;rw [Tryz.underlying15]⟩
instance:TIf Tryz.prog 15 (.pointer none) [(.pointer none)] 1 8:=⟨⟨Tryz.t15,rfl,rfl,rfl,rfl⟩,rfl⟩
instance:TSc Tryz.prog 16:=⟨_,Tryz.underlying16,rfl⟩
instance:TPt Tryz.prog 16:=⟨by unfold Program.pointee;rw [Tryz.underlying16]⟩
instance:TIf Tryz.prog 16 (.pointer none) [(.pointer none)] 1 8:=⟨⟨Tryz.t16,rfl,rfl,rfl,rfl⟩,rfl⟩
instance:TSc Tryz.prog 17:=⟨_,Tryz.underlying17,rfl⟩
instance:TPt Tryz.prog 17:=⟨by unfold Program.pointee;rw [Tryz.underlying17]⟩
instance:TIf Tryz.prog 17 (.pointer none) [(.pointer none)] 1 8:=⟨⟨Tryz.t17,rfl,rfl,rfl,rfl⟩,rfl⟩
instance:TSt Tryz.prog 18 [(17,0)]:=⟨⟨_,Tryz.underlying18,rfl⟩,List.forall_mem_cons.2 ⟨⟨Tryz.t17,rfl,by decide⟩,nofun⟩⟩
instance:TIf Tryz.prog 18 (.agg #[(.pointer none)]) [(.pointer none)] 1 8:=⟨⟨Tryz.t18,rfl,rfl,rfl,rfl⟩,rfl⟩
instance:TSc Tryz.prog 22:=⟨_,Tryz.underlying22,rfl⟩
instance:TSl Tryz.prog 22 51:=⟨Tryz.underlying22⟩
instance:TIf Tryz.prog 22 (.slice none 0 0) [(.slice none 0 0)] 1 24:=⟨⟨Tryz.t22,rfl,rfl,rfl,rfl⟩,rfl⟩
instance:TSt Tryz.prog 24 [(3,0),(3,1),(22,2)]:=⟨⟨_,Tryz.underlying24,rfl⟩,List.forall_mem_cons.2 ⟨⟨Tryz.t3,rfl,by decide⟩,List.forall_mem_cons.2 ⟨⟨Tryz.t3,rfl,by decide⟩,List.forall_mem_cons.2 ⟨⟨Tryz.t22,rfl,by decide⟩,nofun⟩⟩⟩⟩
instance:TIf Tryz.prog 24 (.agg #[(.int .i64 0),(.int .i64 0),(.slice none 0 0)]) [(.int .i64 0),(.int .i64 0),(.slice none 0 0)] 3 40:=⟨⟨Tryz.t24,rfl,rfl,rfl,rfl⟩,rfl⟩
instance:TSc Tryz.prog 27:=⟨_,Tryz.underlying27,rfl⟩
instance:TSl Tryz.prog 27 24:=⟨Tryz.underlying27⟩
instance:TIf Tryz.prog 27 (.slice none 0 0) [(.slice none 0 0)] 1 24:=⟨⟨Tryz.t27,rfl,rfl,rfl,rfl⟩,rfl⟩
instance:TSc Tryz.prog 28:=⟨_,Tryz.underlying28,rfl⟩
instance:TSl Tryz.prog 28 9:=⟨Tryz.underlying28⟩
instance:TIf Tryz.prog 28 (.slice none 0 0) [(.slice none 0 0)] 1 24:=⟨⟨Tryz.t28,rfl,rfl,rfl,rfl⟩,rfl⟩
instance:TSt Tryz.prog 30 [(27,0),(28,1),(28,2),(28,3),(28,4)]:=⟨⟨_,Tryz.underlying30,rfl⟩,List.forall_mem_cons.2 ⟨⟨Tryz.t27,rfl,by decide⟩,List.forall_mem_cons.2 ⟨⟨Tryz.t28,rfl,by decide⟩,List.forall_mem_cons.2 ⟨⟨Tryz.t28,rfl,by decide⟩,List.forall_mem_cons.2 ⟨⟨Tryz.t28,rfl,by decide⟩,List.forall_mem_cons.2 ⟨⟨Tryz.t28,rfl,by decide⟩,nofun⟩⟩⟩⟩⟩⟩
instance:TIf Tryz.prog 30 (.agg #[(.slice none 0 0),(.slice none 0 0),(.slice none 0 0),(.slice none 0 0),(.slice none 0 0)]) [(.slice none 0 0),(.slice none 0 0),(.slice none 0 0),(.slice none 0 0),(.slice none 0 0)] 5 120:=⟨⟨Tryz.t30,rfl,rfl,rfl,rfl⟩,rfl⟩
instance:TSc Tryz.prog 31:=⟨_,Tryz.underlying31,rfl⟩
instance:TSl Tryz.prog 31 3:=⟨Tryz.underlying31⟩
instance:TIf Tryz.prog 31 (.slice none 0 0) [(.slice none 0 0)] 1 24:=⟨⟨Tryz.t31,rfl,rfl,rfl,rfl⟩,rfl⟩
instance:TSc Tryz.prog 35:=⟨_,Tryz.underlying35,rfl⟩
instance:TSl Tryz.prog 35 5:=⟨Tryz.underlying35⟩
instance:TIf Tryz.prog 35 (.slice none 0 0) [(.slice none 0 0)] 1 24:=⟨⟨Tryz.t35,rfl,rfl,rfl,rfl⟩,rfl⟩
instance:TSt Tryz.prog 37 [(3,0),(3,1),(3,2),(35,3)]:=⟨⟨_,Tryz.underlying37,rfl⟩,List.forall_mem_cons.2 ⟨⟨Tryz.t3,rfl,by decide⟩,List.forall_mem_cons.2 ⟨⟨Tryz.t3,rfl,by decide⟩,List.forall_mem_cons.2 ⟨⟨Tryz.t3,rfl,by decide⟩,List.forall_mem_cons.2 ⟨⟨Tryz.t35,rfl,by decide⟩,nofun⟩⟩⟩⟩⟩
instance:TIf Tryz.prog 37 (.agg #[(.int .i64 0),(.int .i64 0),(.int .i64 0),(.slice none 0 0)]) [(.int .i64 0),(.int .i64 0),(.int .i64 0),(.slice none 0 0)] 4 48:=⟨⟨Tryz.t37,rfl,rfl,rfl,rfl⟩,rfl⟩
instance:TSc Tryz.prog 38:=⟨_,Tryz.underlying38,rfl⟩
instance:TSl Tryz.prog 38 2:=⟨Tryz.underlying38⟩
instance:TIf Tryz.prog 38 (.slice none 0 0) [(.slice none 0 0)] 1 24:=⟨⟨Tryz.t38,rfl,rfl,rfl,rfl⟩,rfl⟩
instance:TSt Tryz.prog 41 [(3,0),(9,1),(9,2)]:=⟨⟨_,Tryz.underlying41,rfl⟩,List.forall_mem_cons.2 ⟨⟨Tryz.t3,rfl,by decide⟩,List.forall_mem_cons.2 ⟨⟨Tryz.t9,rfl,by decide⟩,List.forall_mem_cons.2 ⟨⟨Tryz.t9,rfl,by decide⟩,nofun⟩⟩⟩⟩
instance:TIf Tryz.prog 41 (.agg #[(.int .i64 0),(.string ByteArray.empty),(.string ByteArray.empty)]) [(.int .i64 0),(.string ByteArray.empty),(.string ByteArray.empty)] 3 40:=⟨⟨Tryz.t41,rfl,rfl,rfl,rfl⟩,rfl⟩
instance:TSt Tryz.prog 46 [(3,0),(2,1)]:=⟨⟨_,Tryz.underlying46,rfl⟩,List.forall_mem_cons.2 ⟨⟨Tryz.t3,rfl,by decide⟩,List.forall_mem_cons.2 ⟨⟨Tryz.t2,rfl,by decide⟩,nofun⟩⟩⟩
instance:TIf Tryz.prog 46 (.agg #[(.int .i64 0),(.int .i64 0)]) [(.int .i64 0),(.int .i64 0)] 2 16:=⟨⟨Tryz.t46,rfl,rfl,rfl,rfl⟩,rfl⟩
instance:TSc Tryz.prog 47:=⟨_,Tryz.underlying47,rfl⟩
instance:TSl Tryz.prog 47 46:=⟨Tryz.underlying47⟩
instance:TIf Tryz.prog 47 (.slice none 0 0) [(.slice none 0 0)] 1 24:=⟨⟨Tryz.t47,rfl,rfl,rfl,rfl⟩,rfl⟩
instance:TSt Tryz.prog 49 [(3,0),(2,1),(38,2),(47,3)]:=⟨⟨_,Tryz.underlying49,rfl⟩,List.forall_mem_cons.2 ⟨⟨Tryz.t3,rfl,by decide⟩,List.forall_mem_cons.2 ⟨⟨Tryz.t2,rfl,by decide⟩,List.forall_mem_cons.2 ⟨⟨Tryz.t38,rfl,by decide⟩,List.forall_mem_cons.2 ⟨⟨Tryz.t47,rfl,by decide⟩,nofun⟩⟩⟩⟩⟩
instance:TIf Tryz.prog 49 (.agg #[(.int .i64 0),(.int .i64 0),(.slice none 0 0),(.slice none 0 0)]) [(.int .i64 0),(.int .i64 0),(.slice none 0 0),(.slice none 0 0)] 4 64:=⟨⟨Tryz.t49,rfl,rfl,rfl,rfl⟩,rfl⟩
instance:TSt Tryz.prog 51 [(3,0),(3,1),(49,2),(47,6),(38,7),(31,8)]:=⟨⟨_,Tryz.underlying51,rfl⟩,List.forall_mem_cons.2 ⟨⟨Tryz.t3,rfl,by decide⟩,List.forall_mem_cons.2 ⟨⟨Tryz.t3,rfl,by decide⟩,List.forall_mem_cons.2 ⟨⟨Tryz.t49,rfl,by decide⟩,List.forall_mem_cons.2 ⟨⟨Tryz.t47,rfl,by decide⟩,List.forall_mem_cons.2 ⟨⟨Tryz.t38,rfl,by decide⟩,List.forall_mem_cons.2 ⟨⟨Tryz.t31,rfl,by decide⟩,nofun⟩⟩⟩⟩⟩⟩⟩
instance:TIf Tryz.prog 51 (.agg #[(.int .i64 0),(.int .i64 0),(.int .i64 0),(.int .i64 0),(.slice none 0 0),(.slice none 0 0),(.slice none 0 0),(.slice none 0 0),(.slice none 0 0)]) [(.int .i64 0),(.int .i64 0),(.int .i64 0),(.int .i64 0),(.slice none 0 0),(.slice none 0 0),(.slice none 0 0),(.slice none 0 0),(.slice none 0 0)] 9 152:=⟨⟨Tryz.t51,rfl,rfl,rfl,rfl⟩,rfl⟩
instance:TSc Tryz.prog 53:=⟨_,Tryz.underlying53,rfl⟩
instance:TMp Tryz.prog 53 3 4:=⟨Tryz.underlying53⟩
instance:TIf Tryz.prog 53 (.map none) [(.map none)] 1 8:=⟨⟨Tryz.t53,rfl,rfl,rfl,rfl⟩,rfl⟩
instance:TSc Tryz.prog 57:=⟨_,Tryz.underlying57,rfl⟩
instance:TPt Tryz.prog 57:=⟨by unfold Program.pointee;rw [Tryz.underlying57]⟩
instance:TIf Tryz.prog 57 (.pointer none) [(.pointer none)] 1 8:=⟨⟨Tryz.t57,rfl,rfl,rfl,rfl⟩,rfl⟩
instance:TSc Tryz.prog 59:=⟨_,Tryz.underlying59,rfl⟩
instance:TPt Tryz.prog 59:=⟨by unfold Program.pointee;rw [Tryz.underlying59]⟩
instance:TIf Tryz.prog 59 (.pointer none) [(.pointer none)] 1 8:=⟨⟨Tryz.t59,rfl,rfl,rfl,rfl⟩,rfl⟩
instance:TSc Tryz.prog 62:=⟨_,Tryz.underlying62,rfl⟩
instance:TIf Tryz.prog 62 .nilFunc [.nilFunc] 1 8:=⟨⟨Tryz.t62,rfl,rfl,rfl,rfl⟩,rfl⟩
instance:TSc Tryz.prog 64:=⟨_,Tryz.underlying64,rfl⟩
instance:TSl Tryz.prog 64 31:=⟨Tryz.underlying64⟩
instance:TIf Tryz.prog 64 (.slice none 0 0) [(.slice none 0 0)] 1 24:=⟨⟨Tryz.t64,rfl,rfl,rfl,rfl⟩,rfl⟩
instance:TSt Tryz.prog 66 [(57,0),(2,1),(2,2),(38,3),(64,4),(64,5),(4,6),(1,7)]:=⟨⟨_,Tryz.underlying66,rfl⟩,List.forall_mem_cons.2 ⟨⟨Tryz.t57,rfl,by decide⟩,List.forall_mem_cons.2 ⟨⟨Tryz.t2,rfl,by decide⟩,List.forall_mem_cons.2 ⟨⟨Tryz.t2,rfl,by decide⟩,List.forall_mem_cons.2 ⟨⟨Tryz.t38,rfl,by decide⟩,List.forall_mem_cons.2 ⟨⟨Tryz.t64,rfl,by decide⟩,List.forall_mem_cons.2 ⟨⟨Tryz.t64,rfl,by decide⟩,List.forall_mem_cons.2 ⟨⟨Tryz.t4,rfl,by decide⟩,List.forall_mem_cons.2 ⟨⟨Tryz.t1,rfl,by decide⟩,nofun⟩⟩⟩⟩⟩⟩⟩⟩⟩
instance:TIf Tryz.prog 66 (.agg #[(.pointer none),(.int .i64 0),(.int .i64 0),(.slice none 0 0),(.slice none 0 0),(.slice none 0 0),(.bool false),.nilFunc]) [(.pointer none),(.int .i64 0),(.int .i64 0),(.slice none 0 0),(.slice none 0 0),(.slice none 0 0),(.bool false),.nilFunc] 8 112:=⟨⟨Tryz.t66,rfl,rfl,rfl,rfl⟩,rfl⟩
instance:TSc Tryz.prog 67:=⟨_,Tryz.underlying67,rfl⟩
instance:TPt Tryz.prog 67:=⟨by unfold Program.pointee;rw [Tryz.underlying67]⟩
instance:TIf Tryz.prog 67 (.pointer none) [(.pointer none)] 1 8:=⟨⟨Tryz.t67,rfl,rfl,rfl,rfl⟩,rfl⟩
instance:TSc Tryz.prog 72:=⟨_,Tryz.underlying72,rfl⟩
instance:TIn Tryz.prog 72 .u64:=⟨Tryz.underlying72⟩
instance:TIf Tryz.prog 72 (.int .u64 0) [(.int .u64 0)] 1 8:=⟨⟨Tryz.t72,rfl,rfl,rfl,rfl⟩,rfl⟩
instance:TSc Tryz.prog 75:=⟨_,Tryz.underlying75,rfl⟩
instance:TPt Tryz.prog 75:=⟨by unfold Program.pointee;rw [Tryz.underlying75]⟩
instance:TIf Tryz.prog 75 (.pointer none) [(.pointer none)] 1 8:=⟨⟨Tryz.t75,rfl,rfl,rfl,rfl⟩,rfl⟩
instance:TSc Tryz.prog 77:=⟨_,Tryz.underlying77,rfl⟩
instance:TSl Tryz.prog 77 87:=⟨Tryz.underlying77⟩
instance:TIf Tryz.prog 77 (.slice none 0 0) [(.slice none 0 0)] 1 24:=⟨⟨Tryz.t77,rfl,rfl,rfl,rfl⟩,rfl⟩
instance:TSc Tryz.prog 78:=⟨_,Tryz.underlying78,rfl⟩
instance:TSl Tryz.prog 78 64:=⟨Tryz.underlying78⟩
instance:TIf Tryz.prog 78 (.slice none 0 0) [(.slice none 0 0)] 1 24:=⟨⟨Tryz.t78,rfl,rfl,rfl,rfl⟩,rfl⟩
instance:TSc Tryz.prog 79:=⟨_,Tryz.underlying79,rfl⟩
instance:TSl Tryz.prog 79 99:=⟨Tryz.underlying79⟩
instance:TIf Tryz.prog 79 (.slice none 0 0) [(.slice none 0 0)] 1 24:=⟨⟨Tryz.t79,rfl,rfl,rfl,rfl⟩,rfl⟩
instance:TSc Tryz.prog 80:=⟨_,Tryz.underlying80,rfl⟩
instance:TMp Tryz.prog 80 3 84:=⟨Tryz.underlying80⟩
instance:TIf Tryz.prog 80 (.map none) [(.map none)] 1 8:=⟨⟨Tryz.t80,rfl,rfl,rfl,rfl⟩,rfl⟩
instance:TSt Tryz.prog 82 [(30,0),(37,5),(75,9),(77,10),(78,11),(79,12),(9,13),(35,14),(3,15),(67,16),(80,17)]:=⟨⟨_,Tryz.underlying82,rfl⟩,List.forall_mem_cons.2 ⟨⟨Tryz.t30,rfl,by decide⟩,List.forall_mem_cons.2 ⟨⟨Tryz.t37,rfl,by decide⟩,List.forall_mem_cons.2 ⟨⟨Tryz.t75,rfl,by decide⟩,List.forall_mem_cons.2 ⟨⟨Tryz.t77,rfl,by decide⟩,List.forall_mem_cons.2 ⟨⟨Tryz.t78,rfl,by decide⟩,List.forall_mem_cons.2 ⟨⟨Tryz.t79,rfl,by decide⟩,List.forall_mem_cons.2 ⟨⟨Tryz.t9,rfl,by decide⟩,List.forall_mem_cons.2 ⟨⟨Tryz.t35,rfl,by decide⟩,List.forall_mem_cons.2 ⟨⟨Tryz.t3,rfl,by decide⟩,List.forall_mem_cons.2 ⟨⟨Tryz.t67,rfl,by decide⟩,List.forall_mem_cons.2 ⟨⟨Tryz.t80,rfl,by decide⟩,nofun⟩⟩⟩⟩⟩⟩⟩⟩⟩⟩⟩⟩
instance:TIf Tryz.prog 82 (.agg #[(.slice none 0 0),(.slice none 0 0),(.slice none 0 0),(.slice none 0 0),(.slice none 0 0),(.int .i64 0),(.int .i64 0),(.int .i64 0),(.slice none 0 0),(.pointer none),(.slice none 0 0),(.slice none 0 0),(.slice none 0 0),(.string ByteArray.empty),(.slice none 0 0),(.int .i64 0),(.pointer none),(.map none)]) [(.slice none 0 0),(.slice none 0 0),(.slice none 0 0),(.slice none 0 0),(.slice none 0 0),(.int .i64 0),(.int .i64 0),(.int .i64 0),(.slice none 0 0),(.pointer none),(.slice none 0 0),(.slice none 0 0),(.slice none 0 0),(.string ByteArray.empty),(.slice none 0 0),(.int .i64 0),(.pointer none),(.map none)] 18 312:=⟨⟨Tryz.t82,rfl,rfl,rfl,rfl⟩,rfl⟩
instance:TSc Tryz.prog 84:=⟨_,Tryz.underlying84,rfl⟩
instance:TIf Tryz.prog 84 .nilFunc [.nilFunc] 1 8:=⟨⟨Tryz.t84,rfl,rfl,rfl,rfl⟩,rfl⟩
instance:TSc Tryz.prog 86:=⟨_,Tryz.underlying86,rfl⟩
instance:TIn Tryz.prog 86 .u64:=⟨Tryz.underlying86⟩
instance:TIf Tryz.prog 86 (.int .u64 0) [(.int .u64 0)] 1 8:=⟨⟨Tryz.t86,rfl,rfl,rfl,rfl⟩,rfl⟩
instance:TSc Tryz.prog 87:=⟨_,Tryz.underlying87,rfl⟩
instance:TIn Tryz.prog 87 .u64:=⟨Tryz.underlying87⟩
instance:TIf Tryz.prog 87 (.int .u64 0) [(.int .u64 0)] 1 8:=⟨⟨Tryz.t87,rfl,rfl,rfl,rfl⟩,rfl⟩
instance:TSc Tryz.prog 88:=⟨_,Tryz.underlying88,rfl⟩
instance:TIn Tryz.prog 88 .i64:=⟨Tryz.underlying88⟩
instance:TIf Tryz.prog 88 (.int .i64 0) [(.int .i64 0)] 1 8:=⟨⟨Tryz.t88,rfl,rfl,rfl,rfl⟩,rfl⟩
instance:TSc Tryz.prog 97:=⟨_,Tryz.underlying97,rfl⟩
instance:TIf Tryz.prog 97 .nilFunc [.nilFunc] 1 8:=⟨⟨Tryz.t97,rfl,rfl,rfl,rfl⟩,rfl⟩
instance:TSt Tryz.prog 99 [(3,0),(3,1),(77,2),(87,3),(4,4)]:=⟨⟨_,Tryz.underlying99,rfl⟩,List.forall_mem_cons.2 ⟨⟨Tryz.t3,rfl,by decide⟩,List.forall_mem_cons.2 ⟨⟨Tryz.t3,rfl,by decide⟩,List.forall_mem_cons.2 ⟨⟨Tryz.t77,rfl,by decide⟩,List.forall_mem_cons.2 ⟨⟨Tryz.t87,rfl,by decide⟩,List.forall_mem_cons.2 ⟨⟨Tryz.t4,rfl,by decide⟩,nofun⟩⟩⟩⟩⟩⟩
instance:TIf Tryz.prog 99 (.agg #[(.int .i64 0),(.int .i64 0),(.slice none 0 0),(.int .u64 0),(.bool false)]) [(.int .i64 0),(.int .i64 0),(.slice none 0 0),(.int .u64 0),(.bool false)] 5 56:=⟨⟨Tryz.t99,rfl,rfl,rfl,rfl⟩,rfl⟩
instance:TSc Tryz.prog 100:=⟨_,Tryz.underlying100,rfl⟩
instance:TPt Tryz.prog 100:=⟨by unfold Program.pointee;rw [Tryz.underlying100]⟩
instance:TIf Tryz.prog 100 (.pointer none) [(.pointer none)] 1 8:=⟨⟨Tryz.t100,rfl,rfl,rfl,rfl⟩,rfl⟩
instance:TSc Tryz.prog 105:=⟨_,Tryz.underlying105,rfl⟩
instance:TPt Tryz.prog 105:=⟨by unfold Program.pointee;rw [Tryz.underlying105]⟩
instance:TIf Tryz.prog 105 (.pointer none) [(.pointer none)] 1 8:=⟨⟨Tryz.t105,rfl,rfl,rfl,rfl⟩,rfl⟩
instance:TSc Tryz.prog 107:=⟨_,Tryz.underlying107,rfl⟩
instance:TPt Tryz.prog 107:=⟨by unfold Program.pointee;rw [Tryz.underlying107]⟩
instance:TIf Tryz.prog 107 (.pointer none) [(.pointer none)] 1 8:=⟨⟨Tryz.t107,rfl,rfl,rfl,rfl⟩,rfl⟩
instance:TSt Tryz.prog 110 [(107,0),(105,1),(3,2)]:=⟨⟨_,Tryz.underlying110,rfl⟩,List.forall_mem_cons.2 ⟨⟨Tryz.t107,rfl,by decide⟩,List.forall_mem_cons.2 ⟨⟨Tryz.t105,rfl,by decide⟩,List.forall_mem_cons.2 ⟨⟨Tryz.t3,rfl,by decide⟩,nofun⟩⟩⟩⟩
instance:TIf Tryz.prog 110 (.agg #[(.pointer none),(.pointer none),(.int .i64 0)]) [(.pointer none),(.pointer none),(.int .i64 0)] 3 24:=⟨⟨Tryz.t110,rfl,rfl,rfl,rfl⟩,rfl⟩
instance:TSc Tryz.prog 111:=⟨_,Tryz.underlying111,rfl⟩
instance:TPt Tryz.prog 111:=⟨by unfold Program.pointee;rw [Tryz.underlying111]⟩
instance:TIf Tryz.prog 111 (.pointer none) [(.pointer none)] 1 8:=⟨⟨Tryz.t111,rfl,rfl,rfl,rfl⟩,rfl⟩
instance:TSc Tryz.prog 112:=⟨_,Tryz.underlying112,rfl⟩
instance:TSl Tryz.prog 112 121:=⟨Tryz.underlying112⟩
instance:TIf Tryz.prog 112 (.slice none 0 0) [(.slice none 0 0)] 1 24:=⟨⟨Tryz.t112,rfl,rfl,rfl,rfl⟩,rfl⟩
instance:TSt Tryz.prog 114 [(112,0),(28,1),(28,2),(28,3),(28,4)]:=⟨⟨_,Tryz.underlying114,rfl⟩,List.forall_mem_cons.2 ⟨⟨Tryz.t112,rfl,by decide⟩,List.forall_mem_cons.2 ⟨⟨Tryz.t28,rfl,by decide⟩,List.forall_mem_cons.2 ⟨⟨Tryz.t28,rfl,by decide⟩,List.forall_mem_cons.2 ⟨⟨Tryz.t28,rfl,by decide⟩,List.forall_mem_cons.2 ⟨⟨Tryz.t28,rfl,by decide⟩,nofun⟩⟩⟩⟩⟩⟩
instance:TIf Tryz.prog 114 (.agg #[(.slice none 0 0),(.slice none 0 0),(.slice none 0 0),(.slice none 0 0),(.slice none 0 0)]) [(.slice none 0 0),(.slice none 0 0),(.slice none 0 0),(.slice none 0 0),(.slice none 0 0)] 5 120:=⟨⟨Tryz.t114,rfl,rfl,rfl,rfl⟩,rfl⟩
instance:TSt Tryz.prog 116 [(114,0),(31,5),(3,6),(3,7)]:=⟨⟨_,Tryz.underlying116,rfl⟩,List.forall_mem_cons.2 ⟨⟨Tryz.t114,rfl,by decide⟩,List.forall_mem_cons.2 ⟨⟨Tryz.t31,rfl,by decide⟩,List.forall_mem_cons.2 ⟨⟨Tryz.t3,rfl,by decide⟩,List.forall_mem_cons.2 ⟨⟨Tryz.t3,rfl,by decide⟩,nofun⟩⟩⟩⟩⟩
instance:TIf Tryz.prog 116 (.agg #[(.slice none 0 0),(.slice none 0 0),(.slice none 0 0),(.slice none 0 0),(.slice none 0 0),(.slice none 0 0),(.int .i64 0),(.int .i64 0)]) [(.slice none 0 0),(.slice none 0 0),(.slice none 0 0),(.slice none 0 0),(.slice none 0 0),(.slice none 0 0),(.int .i64 0),(.int .i64 0)] 8 160:=⟨⟨Tryz.t116,rfl,rfl,rfl,rfl⟩,rfl⟩
instance:TSc Tryz.prog 117:=⟨_,Tryz.underlying117,rfl⟩
instance:TSl Tryz.prog 117 119:=⟨Tryz.underlying117⟩
instance:TIf Tryz.prog 117 (.slice none 0 0) [(.slice none 0 0)] 1 24:=⟨⟨Tryz.t117,rfl,rfl,rfl,rfl⟩,rfl⟩
instance:TSt Tryz.prog 119 [(3,0),(3,1),(31,2),(3,3),(38,4),(49,5),(47,9),(117,10)]:=⟨⟨_,Tryz.underlying119,rfl⟩,List.forall_mem_cons.2 ⟨⟨Tryz.t3,rfl,by decide⟩,List.forall_mem_cons.2 ⟨⟨Tryz.t3,rfl,by decide⟩,List.forall_mem_cons.2 ⟨⟨Tryz.t31,rfl,by decide⟩,List.forall_mem_cons.2 ⟨⟨Tryz.t3,rfl,by decide⟩,List.forall_mem_cons.2 ⟨⟨Tryz.t38,rfl,by decide⟩,List.forall_mem_cons.2 ⟨⟨Tryz.t49,rfl,by decide⟩,List.forall_mem_cons.2 ⟨⟨Tryz.t47,rfl,by decide⟩,List.forall_mem_cons.2 ⟨⟨Tryz.t117,rfl,by decide⟩,nofun⟩⟩⟩⟩⟩⟩⟩⟩⟩
instance:TIf Tryz.prog 119 (.agg #[(.int .i64 0),(.int .i64 0),(.slice none 0 0),(.int .i64 0),(.slice none 0 0),(.int .i64 0),(.int .i64 0),(.slice none 0 0),(.slice none 0 0),(.slice none 0 0),(.slice none 0 0)]) [(.int .i64 0),(.int .i64 0),(.slice none 0 0),(.int .i64 0),(.slice none 0 0),(.int .i64 0),(.int .i64 0),(.slice none 0 0),(.slice none 0 0),(.slice none 0 0),(.slice none 0 0)] 11 184:=⟨⟨Tryz.t119,rfl,rfl,rfl,rfl⟩,rfl⟩
instance:TSt Tryz.prog 121 [(3,0),(119,1)]:=⟨⟨_,Tryz.underlying121,rfl⟩,List.forall_mem_cons.2 ⟨⟨Tryz.t3,rfl,by decide⟩,List.forall_mem_cons.2 ⟨⟨Tryz.t119,rfl,by decide⟩,nofun⟩⟩⟩
instance:TIf Tryz.prog 121 (.agg #[(.int .i64 0),(.int .i64 0),(.int .i64 0),(.slice none 0 0),(.int .i64 0),(.slice none 0 0),(.int .i64 0),(.int .i64 0),(.slice none 0 0),(.slice none 0 0),(.slice none 0 0),(.slice none 0 0)]) [(.int .i64 0),(.int .i64 0),(.int .i64 0),(.slice none 0 0),(.int .i64 0),(.slice none 0 0),(.int .i64 0),(.int .i64 0),(.slice none 0 0),(.slice none 0 0),(.slice none 0 0),(.slice none 0 0)] 12 192:=⟨⟨Tryz.t121,rfl,rfl,rfl,rfl⟩,rfl⟩
instance:TSc Tryz.prog 137:=⟨_,Tryz.underlying137,rfl⟩
instance:TSl Tryz.prog 137 53:=⟨Tryz.underlying137⟩
instance:TIf Tryz.prog 137 (.slice none 0 0) [(.slice none 0 0)] 1 24:=⟨⟨Tryz.t137,rfl,rfl,rfl,rfl⟩,rfl⟩
instance:TSc Tryz.prog 153:=⟨_,Tryz.underlying153,rfl⟩
instance:TSl Tryz.prog 153 220:=⟨Tryz.underlying153⟩
instance:TIf Tryz.prog 153 (.slice none 0 0) [(.slice none 0 0)] 1 24:=⟨⟨Tryz.t153,rfl,rfl,rfl,rfl⟩,rfl⟩
instance:TSt Tryz.prog 155 [(3,0),(3,1)]:=⟨⟨_,Tryz.underlying155,rfl⟩,List.forall_mem_cons.2 ⟨⟨Tryz.t3,rfl,by decide⟩,List.forall_mem_cons.2 ⟨⟨Tryz.t3,rfl,by decide⟩,nofun⟩⟩⟩
instance:TIf Tryz.prog 155 (.agg #[(.int .i64 0),(.int .i64 0)]) [(.int .i64 0),(.int .i64 0)] 2 16:=⟨⟨Tryz.t155,rfl,rfl,rfl,rfl⟩,rfl⟩
instance:TSc Tryz.prog 156:=⟨_,Tryz.underlying156,rfl⟩
instance:TSl Tryz.prog 156 155:=⟨Tryz.underlying156⟩
instance:TIf Tryz.prog 156 (.slice none 0 0) [(.slice none 0 0)] 1 24:=⟨⟨Tryz.t156,rfl,rfl,rfl,rfl⟩,rfl⟩
instance:TSt Tryz.prog 158 [(77,0),(153,1),(156,2)]:=⟨⟨_,Tryz.underlying158,rfl⟩,List.forall_mem_cons.2 ⟨⟨Tryz.t77,rfl,by decide⟩,List.forall_mem_cons.2 ⟨⟨Tryz.t153,rfl,by decide⟩,List.forall_mem_cons.2 ⟨⟨Tryz.t156,rfl,by decide⟩,nofun⟩⟩⟩⟩
instance:TIf Tryz.prog 158 (.agg #[(.slice none 0 0),(.slice none 0 0),(.slice none 0 0)]) [(.slice none 0 0),(.slice none 0 0),(.slice none 0 0)] 3 72:=⟨⟨Tryz.t158,rfl,rfl,rfl,rfl⟩,rfl⟩
instance:TSt Tryz.prog 161 [(105,0),(3,1),(35,2),(31,3),(3,4)]:=⟨⟨_,Tryz.underlying161,rfl⟩,List.forall_mem_cons.2 ⟨⟨Tryz.t105,rfl,by decide⟩,List.forall_mem_cons.2 ⟨⟨Tryz.t3,rfl,by decide⟩,List.forall_mem_cons.2 ⟨⟨Tryz.t35,rfl,by decide⟩,List.forall_mem_cons.2 ⟨⟨Tryz.t31,rfl,by decide⟩,List.forall_mem_cons.2 ⟨⟨Tryz.t3,rfl,by decide⟩,nofun⟩⟩⟩⟩⟩⟩
instance:TIf Tryz.prog 161 (.agg #[(.pointer none),(.int .i64 0),(.slice none 0 0),(.slice none 0 0),(.int .i64 0)]) [(.pointer none),(.int .i64 0),(.slice none 0 0),(.slice none 0 0),(.int .i64 0)] 5 72:=⟨⟨Tryz.t161,rfl,rfl,rfl,rfl⟩,rfl⟩
instance:TSc Tryz.prog 165:=⟨_,Tryz.underlying165,rfl⟩
instance:TIf Tryz.prog 165 .nilFunc [.nilFunc] 1 8:=⟨⟨Tryz.t165,rfl,rfl,rfl,rfl⟩,rfl⟩
instance:TSc Tryz.prog 166:=⟨_,Tryz.underlying166,rfl⟩
instance:TPt Tryz.prog 166:=⟨by unfold Program.pointee;rw [Tryz.underlying166]⟩
instance:TIf Tryz.prog 166 (.pointer none) [(.pointer none)] 1 8:=⟨⟨Tryz.t166,rfl,rfl,rfl,rfl⟩,rfl⟩
instance:TSc Tryz.prog 167:=⟨_,Tryz.underlying167,rfl⟩
instance:TMp Tryz.prog 167 3 3:=⟨Tryz.underlying167⟩
instance:TIf Tryz.prog 167 (.map none) [(.map none)] 1 8:=⟨⟨Tryz.t167,rfl,rfl,rfl,rfl⟩,rfl⟩
instance:TSt Tryz.prog 169 [(114,0),(31,5),(3,6),(3,7),(53,8),(53,9),(167,10),(53,11)]:=⟨⟨_,Tryz.underlying169,rfl⟩,List.forall_mem_cons.2 ⟨⟨Tryz.t114,rfl,by decide⟩,List.forall_mem_cons.2 ⟨⟨Tryz.t31,rfl,by decide⟩,List.forall_mem_cons.2 ⟨⟨Tryz.t3,rfl,by decide⟩,List.forall_mem_cons.2 ⟨⟨Tryz.t3,rfl,by decide⟩,List.forall_mem_cons.2 ⟨⟨Tryz.t53,rfl,by decide⟩,List.forall_mem_cons.2 ⟨⟨Tryz.t53,rfl,by decide⟩,List.forall_mem_cons.2 ⟨⟨Tryz.t167,rfl,by decide⟩,List.forall_mem_cons.2 ⟨⟨Tryz.t53,rfl,by decide⟩,nofun⟩⟩⟩⟩⟩⟩⟩⟩⟩
instance:TIf Tryz.prog 169 (.agg #[(.slice none 0 0),(.slice none 0 0),(.slice none 0 0),(.slice none 0 0),(.slice none 0 0),(.slice none 0 0),(.int .i64 0),(.int .i64 0),(.map none),(.map none),(.map none),(.map none)]) [(.slice none 0 0),(.slice none 0 0),(.slice none 0 0),(.slice none 0 0),(.slice none 0 0),(.slice none 0 0),(.int .i64 0),(.int .i64 0),(.map none),(.map none),(.map none),(.map none)] 12 192:=⟨⟨Tryz.t169,rfl,rfl,rfl,rfl⟩,rfl⟩
instance:TSc Tryz.prog 176:=⟨_,Tryz.underlying176,rfl⟩
instance:TIf Tryz.prog 176 .nilFunc [.nilFunc] 1 8:=⟨⟨Tryz.t176,rfl,rfl,rfl,rfl⟩,rfl⟩
instance:TSc Tryz.prog 178:=⟨_,Tryz.underlying178,rfl⟩
instance:TMp Tryz.prog 178 3 176:=⟨Tryz.underlying178⟩
instance:TIf Tryz.prog 178 (.map none) [(.map none)] 1 8:=⟨⟨Tryz.t178,rfl,rfl,rfl,rfl⟩,rfl⟩
instance:TSc Tryz.prog 191:=⟨_,Tryz.underlying191,rfl⟩
instance:TIn Tryz.prog 191 .i64:=⟨Tryz.underlying191⟩
instance:TIf Tryz.prog 191 (.int .i64 0) [(.int .i64 0)] 1 8:=⟨⟨Tryz.t191,rfl,rfl,rfl,rfl⟩,rfl⟩
instance:TSc Tryz.prog 199:=⟨_,Tryz.underlying199,rfl⟩
instance:TIn Tryz.prog 199 .u32:=⟨Tryz.underlying199⟩
instance:TIf Tryz.prog 199 (.int .u32 0) [(.int .u32 0)] 1 4:=⟨⟨Tryz.t199,rfl,rfl,rfl,rfl⟩,rfl⟩
instance:TSt Tryz.prog 207 [(4,0),(4,1),(4,2),(4,3),(4,4),(3,5),(3,6)]:=⟨⟨_,Tryz.underlying207,rfl⟩,List.forall_mem_cons.2 ⟨⟨Tryz.t4,rfl,by decide⟩,List.forall_mem_cons.2 ⟨⟨Tryz.t4,rfl,by decide⟩,List.forall_mem_cons.2 ⟨⟨Tryz.t4,rfl,by decide⟩,List.forall_mem_cons.2 ⟨⟨Tryz.t4,rfl,by decide⟩,List.forall_mem_cons.2 ⟨⟨Tryz.t4,rfl,by decide⟩,List.forall_mem_cons.2 ⟨⟨Tryz.t3,rfl,by decide⟩,List.forall_mem_cons.2 ⟨⟨Tryz.t3,rfl,by decide⟩,nofun⟩⟩⟩⟩⟩⟩⟩⟩
instance:TIf Tryz.prog 207 (.agg #[(.bool false),(.bool false),(.bool false),(.bool false),(.bool false),(.int .i64 0),(.int .i64 0)]) [(.bool false),(.bool false),(.bool false),(.bool false),(.bool false),(.int .i64 0),(.int .i64 0)] 7 24:=⟨⟨Tryz.t207,rfl,rfl,rfl,rfl⟩,rfl⟩
instance:TSc Tryz.prog 215:=⟨_,Tryz.underlying215,rfl⟩
instance:TIf Tryz.prog 215 .nilFunc [.nilFunc] 1 8:=⟨⟨Tryz.t215,rfl,rfl,rfl,rfl⟩,rfl⟩
instance:TSt Tryz.prog 220 [(3,0),(3,1)]:=⟨⟨_,Tryz.underlying220,rfl⟩,List.forall_mem_cons.2 ⟨⟨Tryz.t3,rfl,by decide⟩,List.forall_mem_cons.2 ⟨⟨Tryz.t3,rfl,by decide⟩,nofun⟩⟩⟩
instance:TIf Tryz.prog 220 (.agg #[(.int .i64 0),(.int .i64 0)]) [(.int .i64 0),(.int .i64 0)] 2 16:=⟨⟨Tryz.t220,rfl,rfl,rfl,rfl⟩,rfl⟩
instance:TSc Tryz.prog 229:=⟨_,Tryz.underlying229,rfl⟩
instance:TIn Tryz.prog 229 .u64:=⟨Tryz.underlying229⟩
instance:TIf Tryz.prog 229 (.int .u64 0) [(.int .u64 0)] 1 8:=⟨⟨Tryz.t229,rfl,rfl,rfl,rfl⟩,rfl⟩
instance:TSc Tryz.prog 233:=⟨_,Tryz.underlying233,rfl⟩
instance:TPt Tryz.prog 233:=⟨by unfold Program.pointee;rw [Tryz.underlying233]⟩
instance:TIf Tryz.prog 233 (.pointer none) [(.pointer none)] 1 8:=⟨⟨Tryz.t233,rfl,rfl,rfl,rfl⟩,rfl⟩
instance:TSc Tryz.prog 236:=⟨_,Tryz.underlying236,rfl⟩
instance:TIf Tryz.prog 236 .nilFunc [.nilFunc] 1 8:=⟨⟨Tryz.t236,rfl,rfl,rfl,rfl⟩,rfl⟩
instance:TSc Tryz.prog 239:=⟨_,Tryz.underlying239,rfl⟩
instance:TIf Tryz.prog 239 .nilFunc [.nilFunc] 1 8:=⟨⟨Tryz.t239,rfl,rfl,rfl,rfl⟩,rfl⟩
instance:TIf Tryz.prog 244 (.agg #[(.string ByteArray.empty),(.string ByteArray.empty),(.string ByteArray.empty),(.string ByteArray.empty),(.string ByteArray.empty),(.string ByteArray.empty),(.string ByteArray.empty)]) [(.string ByteArray.empty),(.string ByteArray.empty),(.string ByteArray.empty),(.string ByteArray.empty),(.string ByteArray.empty),(.string ByteArray.empty),(.string ByteArray.empty)] 7 112:=⟨⟨Tryz.t244,rfl,rfl,rfl,rfl⟩,rfl⟩
instance:TSc Tryz.prog 249:=⟨_,Tryz.underlying249,rfl⟩
instance:TIf Tryz.prog 249 .nilFunc [.nilFunc] 1 8:=⟨⟨Tryz.t249,rfl,rfl,rfl,rfl⟩,rfl⟩
instance:TSc Tryz.prog 254:=⟨_,Tryz.underlying254,rfl⟩
instance:TPt Tryz.prog 254:=⟨by unfold Program.pointee;rw [Tryz.underlying254]⟩
instance:TIf Tryz.prog 254 (.pointer none) [(.pointer none)] 1 8:=⟨⟨Tryz.t254,rfl,rfl,rfl,rfl⟩,rfl⟩
instance:TSc Tryz.prog 261:=⟨_,Tryz.underlying261,rfl⟩
instance:TPt Tryz.prog 261:=⟨by unfold Program.pointee;rw [Tryz.underlying261]⟩
instance:TIf Tryz.prog 261 (.pointer none) [(.pointer none)] 1 8:=⟨⟨Tryz.t261,rfl,rfl,rfl,rfl⟩,rfl⟩
instance:TSt Tryz.prog 263 [(261,0),(35,1)]:=⟨⟨_,Tryz.underlying263,rfl⟩,List.forall_mem_cons.2 ⟨⟨Tryz.t261,rfl,by decide⟩,List.forall_mem_cons.2 ⟨⟨Tryz.t35,rfl,by decide⟩,nofun⟩⟩⟩
instance:TIf Tryz.prog 263 (.agg #[(.pointer none),(.slice none 0 0)]) [(.pointer none),(.slice none 0 0)] 2 32:=⟨⟨Tryz.t263,rfl,rfl,rfl,rfl⟩,rfl⟩
instance:TSc Tryz.prog 265:=⟨_,Tryz.underlying265,rfl⟩
instance:TIf Tryz.prog 265 .nilIface [.nilIface] 1 16:=⟨⟨Tryz.t265,rfl,rfl,rfl,rfl⟩,rfl⟩
instance:TSc Tryz.prog 271:=⟨_,Tryz.underlying271,rfl⟩
instance:TPt Tryz.prog 271:=⟨by unfold Program.pointee;rw [Tryz.underlying271]⟩
instance:TIf Tryz.prog 271 (.pointer none) [(.pointer none)] 1 8:=⟨⟨Tryz.t271,rfl,rfl,rfl,rfl⟩,rfl⟩
instance:TIf Tryz.prog 274 (.agg #[(.int .u8 0),(.int .u8 0),(.int .u8 0),(.int .u8 0),(.int .u8 0),(.int .u8 0),(.int .u8 0),(.int .u8 0),(.int .u8 0),(.int .u8 0),(.int .u8 0),(.int .u8 0),(.int .u8 0),(.int .u8 0),(.int .u8 0),(.int .u8 0),(.int .u8 0),(.int .u8 0),(.int .u8 0),(.int .u8 0),(.int .u8 0),(.int .u8 0),(.int .u8 0),(.int .u8 0)]) [(.int .u8 0),(.int .u8 0),(.int .u8 0),(.int .u8 0),(.int .u8 0),(.int .u8 0),(.int .u8 0),(.int .u8 0),(.int .u8 0),(.int .u8 0),(.int .u8 0),(.int .u8 0),(.int .u8 0),(.int .u8 0),(.int .u8 0),(.int .u8 0),(.int .u8 0),(.int .u8 0),(.int .u8 0),(.int .u8 0),(.int .u8 0),(.int .u8 0),(.int .u8 0),(.int .u8 0)] 24 24:=⟨⟨Tryz.t274,rfl,rfl,rfl,rfl⟩,rfl⟩
instance:TIf Tryz.prog 281 (.agg #[(.int .u64 0),(.int .u64 0),(.int .u64 0),(.int .u64 0),(.int .u64 0),(.int .u64 0),(.int .u64 0),(.int .u64 0),(.int .u64 0),(.int .u64 0),(.int .u64 0),(.int .u64 0),(.int .u64 0),(.int .u64 0),(.int .u64 0),(.int .u64 0),(.int .u64 0),(.int .u64 0),(.int .u64 0),(.int .u64 0)]) [(.int .u64 0),(.int .u64 0),(.int .u64 0),(.int .u64 0),(.int .u64 0),(.int .u64 0),(.int .u64 0),(.int .u64 0),(.int .u64 0),(.int .u64 0),(.int .u64 0),(.int .u64 0),(.int .u64 0),(.int .u64 0),(.int .u64 0),(.int .u64 0),(.int .u64 0),(.int .u64 0),(.int .u64 0),(.int .u64 0)] 20 160:=⟨⟨Tryz.t281,rfl,rfl,rfl,rfl⟩,rfl⟩
instance:TIf Tryz.prog 283 (.agg #[(.int .u8 0),(.int .u8 0),(.int .u8 0),(.int .u8 0),(.int .u8 0),(.int .u8 0),(.int .u8 0),(.int .u8 0),(.int .u8 0),(.int .u8 0),(.int .u8 0),(.int .u8 0),(.int .u8 0),(.int .u8 0),(.int .u8 0),(.int .u8 0),(.int .u8 0),(.int .u8 0),(.int .u8 0),(.int .u8 0),(.int .u8 0),(.int .u8 0),(.int .u8 0),(.int .u8 0),(.int .u8 0),(.int .u8 0),(.int .u8 0),(.int .u8 0),(.int .u8 0),(.int .u8 0),(.int .u8 0),(.int .u8 0)]) [(.int .u8 0),(.int .u8 0),(.int .u8 0),(.int .u8 0),(.int .u8 0),(.int .u8 0),(.int .u8 0),(.int .u8 0),(.int .u8 0),(.int .u8 0),(.int .u8 0),(.int .u8 0),(.int .u8 0),(.int .u8 0),(.int .u8 0),(.int .u8 0),(.int .u8 0),(.int .u8 0),(.int .u8 0),(.int .u8 0),(.int .u8 0),(.int .u8 0),(.int .u8 0),(.int .u8 0),(.int .u8 0),(.int .u8 0),(.int .u8 0),(.int .u8 0),(.int .u8 0),(.int .u8 0),(.int .u8 0),(.int .u8 0)] 32 32:=⟨⟨Tryz.t283,rfl,rfl,rfl,rfl⟩,rfl⟩
instance:FnB Tryz.prog 2:=⟨_,Tryz.func2,rfl,by kernel_rfl⟩
instance:FnB Tryz.prog 3:=⟨_,Tryz.func3,rfl,by kernel_rfl⟩
instance:FnB Tryz.prog 4:=⟨_,Tryz.func4,rfl,by kernel_rfl⟩
instance:FnB Tryz.prog 5:=⟨_,Tryz.func5,rfl,by kernel_rfl⟩
instance:FnB Tryz.prog 6:=⟨_,Tryz.func6,rfl,by kernel_rfl⟩
instance:FnB Tryz.prog 7:=⟨_,Tryz.func7,rfl,by kernel_rfl⟩
instance:FnB Tryz.prog 8:=⟨_,Tryz.func8,rfl,by kernel_rfl⟩
instance:FnB Tryz.prog 9:=⟨_,Tryz.func9,rfl,by kernel_rfl⟩
instance:FnB Tryz.prog 10:=⟨_,Tryz.func10,rfl,by kernel_rfl⟩
instance:FnB Tryz.prog 11:=⟨_,Tryz.func11,rfl,by kernel_rfl⟩
instance:FnB Tryz.prog 12:=⟨_,Tryz.func12,rfl,by kernel_rfl⟩
instance:FnB Tryz.prog 13:=⟨_,Tryz.func13,rfl,by kernel_rfl⟩
instance:FnB Tryz.prog 14:=⟨_,Tryz.func14,rfl,by kernel_rfl⟩
instance:FnB Tryz.prog 15:=⟨_,Tryz.func15,rfl,by kernel_rfl⟩
instance:FnB Tryz.prog 16:=⟨_,Tryz.func16,rfl,by kernel_rfl⟩
instance:FnB Tryz.prog 17:=⟨_,Tryz.func17,rfl,by kernel_rfl⟩
instance:FnB Tryz.prog 18:=⟨_,Tryz.func18,rfl,by kernel_rfl⟩
instance:FnB Tryz.prog 19:=⟨_,Tryz.func19,rfl,by kernel_rfl⟩
instance:FnB Tryz.prog 20:=⟨_,Tryz.func20,rfl,by kernel_rfl⟩
instance:FnB Tryz.prog 21:=⟨_,Tryz.func21,rfl,by kernel_rfl⟩
instance:FnB Tryz.prog 22:=⟨_,Tryz.func22,rfl,by kernel_rfl⟩
instance:FnB Tryz.prog 23:=⟨_,Tryz.func23,rfl,by kernel_rfl⟩
instance:FnB Tryz.prog 24:=⟨_,Tryz.func24,rfl,by kernel_rfl⟩
instance:FnB Tryz.prog 25:=⟨_,Tryz.func25,rfl,by kernel_rfl⟩
instance:FnB Tryz.prog 26:=⟨_,Tryz.func26,rfl,by kernel_rfl⟩
instance:FnB Tryz.prog 27:=⟨_,Tryz.func27,rfl,by kernel_rfl⟩
instance:FnB Tryz.prog 28:=⟨_,Tryz.func28,rfl,by kernel_rfl⟩
instance:FnB Tryz.prog 29:=⟨_,Tryz.func29,rfl,by kernel_rfl⟩
instance:FnB Tryz.prog 30:=⟨_,Tryz.func30,rfl,by kernel_rfl⟩
instance:FnB Tryz.prog 31:=⟨_,Tryz.func31,rfl,by kernel_rfl⟩
instance:FnB Tryz.prog 32:=⟨_,Tryz.func32,rfl,by kernel_rfl⟩
instance:FnB Tryz.prog 33:=⟨_,Tryz.func33,rfl,by kernel_rfl⟩
instance:FnB Tryz.prog 34:=⟨_,Tryz.func34,rfl,by kernel_rfl⟩
instance:FnB Tryz.prog 35:=⟨_,Tryz.func35,rfl,by kernel_rfl⟩
instance:FnB Tryz.prog 36:=⟨_,Tryz.func36,rfl,by kernel_rfl⟩
instance:FnB Tryz.prog 37:=⟨_,Tryz.func37,rfl,by kernel_rfl⟩
instance:FnB Tryz.prog 38:=⟨_,Tryz.func38,rfl,by kernel_rfl⟩
instance:FnB Tryz.prog 39:=⟨_,Tryz.func39,rfl,by kernel_rfl⟩
instance:FnB Tryz.prog 40:=⟨_,Tryz.func40,rfl,by kernel_rfl⟩
instance:FnB Tryz.prog 41:=⟨_,Tryz.func41,rfl,by kernel_rfl⟩
instance:FnB Tryz.prog 42:=⟨_,Tryz.func42,rfl,by kernel_rfl⟩
instance:FnB Tryz.prog 43:=⟨_,Tryz.func43,rfl,by kernel_rfl⟩
instance:FnB Tryz.prog 44:=⟨_,Tryz.func44,rfl,by kernel_rfl⟩
instance:FnB Tryz.prog 45:=⟨_,Tryz.func45,rfl,by kernel_rfl⟩
instance:FnB Tryz.prog 46:=⟨_,Tryz.func46,rfl,by kernel_rfl⟩
instance:FnB Tryz.prog 47:=⟨_,Tryz.func47,rfl,by kernel_rfl⟩
instance:FnB Tryz.prog 48:=⟨_,Tryz.func48,rfl,by kernel_rfl⟩
instance:FnB Tryz.prog 49:=⟨_,Tryz.func49,rfl,by kernel_rfl⟩
instance:FnB Tryz.prog 50:=⟨_,Tryz.func50,rfl,by kernel_rfl⟩
instance:FnB Tryz.prog 51:=⟨_,Tryz.func51,rfl,by kernel_rfl⟩
instance:FnB Tryz.prog 52:=⟨_,Tryz.func52,rfl,by kernel_rfl⟩
instance:FnB Tryz.prog 53:=⟨_,Tryz.func53,rfl,by kernel_rfl⟩
instance:FnB Tryz.prog 54:=⟨_,Tryz.func54,rfl,by kernel_rfl⟩
instance:FnB Tryz.prog 55:=⟨_,Tryz.func55,rfl,by kernel_rfl⟩
instance:FnB Tryz.prog 56:=⟨_,Tryz.func56,rfl,by kernel_rfl⟩
instance:FnB Tryz.prog 57:=⟨_,Tryz.func57,rfl,by kernel_rfl⟩
instance:FnB Tryz.prog 58:=⟨_,Tryz.func58,rfl,by kernel_rfl⟩
instance:FnB Tryz.prog 59:=⟨_,Tryz.func59,rfl,by kernel_rfl⟩
instance:FnB Tryz.prog 60:=⟨_,Tryz.func60,rfl,by kernel_rfl⟩
instance:FnB Tryz.prog 61:=⟨_,Tryz.func61,rfl,by kernel_rfl⟩
instance:FnB Tryz.prog 62:=⟨_,Tryz.func62,rfl,by kernel_rfl⟩
instance:FnB Tryz.prog 63:=⟨_,Tryz.func63,rfl,by kernel_rfl⟩
instance:FnB Tryz.prog 64:=⟨_,Tryz.func64,rfl,by kernel_rfl⟩
instance:FnB Tryz.prog 65:=⟨_,Tryz.func65,rfl,by kernel_rfl⟩
instance:FnB Tryz.prog 66:=⟨_,Tryz.func66,rfl,by kernel_rfl⟩
instance:FnB Tryz.prog 67:=⟨_,Tryz.func67,rfl,by kernel_rfl⟩
instance:FnB Tryz.prog 68:=⟨_,Tryz.func68,rfl,by kernel_rfl⟩
instance:FnB Tryz.prog 69:=⟨_,Tryz.func69,rfl,by kernel_rfl⟩
instance:FnB Tryz.prog 70:=⟨_,Tryz.func70,rfl,by kernel_rfl⟩
instance:FnB Tryz.prog 71:=⟨_,Tryz.func71,rfl,by kernel_rfl⟩
instance:FnB Tryz.prog 72:=⟨_,Tryz.func72,rfl,by kernel_rfl⟩
instance:FnB Tryz.prog 73:=⟨_,Tryz.func73,rfl,by kernel_rfl⟩
instance:FnB Tryz.prog 74:=⟨_,Tryz.func74,rfl,by kernel_rfl⟩
instance:FnB Tryz.prog 75:=⟨_,Tryz.func75,rfl,by kernel_rfl⟩
instance:FnB Tryz.prog 76:=⟨_,Tryz.func76,rfl,by kernel_rfl⟩
instance:FnB Tryz.prog 77:=⟨_,Tryz.func77,rfl,by kernel_rfl⟩
instance:FnB Tryz.prog 78:=⟨_,Tryz.func78,rfl,by kernel_rfl⟩
instance:FnB Tryz.prog 79:=⟨_,Tryz.func79,rfl,by kernel_rfl⟩
instance:FnB Tryz.prog 80:=⟨_,Tryz.func80,rfl,by kernel_rfl⟩
instance:FnB Tryz.prog 81:=⟨_,Tryz.func81,rfl,by kernel_rfl⟩
instance:FnB Tryz.prog 82:=⟨_,Tryz.func82,rfl,by kernel_rfl⟩
instance:FnB Tryz.prog 83:=⟨_,Tryz.func83,rfl,by kernel_rfl⟩
instance:FnB Tryz.prog 84:=⟨_,Tryz.func84,rfl,by kernel_rfl⟩
instance:FnB Tryz.prog 85:=⟨_,Tryz.func85,rfl,by kernel_rfl⟩
instance:FnB Tryz.prog 86:=⟨_,Tryz.func86,rfl,by kernel_rfl⟩
instance:FnB Tryz.prog 87:=⟨_,Tryz.func87,rfl,by kernel_rfl⟩
instance:FnB Tryz.prog 88:=⟨_,Tryz.func88,rfl,by kernel_rfl⟩
instance:FnB Tryz.prog 89:=⟨_,Tryz.func89,rfl,by kernel_rfl⟩
instance:FnB Tryz.prog 90:=⟨_,Tryz.func90,rfl,by kernel_rfl⟩
instance:FnB Tryz.prog 91:=⟨_,Tryz.func91,rfl,by kernel_rfl⟩
instance:FnB Tryz.prog 92:=⟨_,Tryz.func92,rfl,by kernel_rfl⟩
instance:FnB Tryz.prog 93:=⟨_,Tryz.func93,rfl,by kernel_rfl⟩
instance:FnB Tryz.prog 94:=⟨_,Tryz.func94,rfl,by kernel_rfl⟩
instance:FnB Tryz.prog 95:=⟨_,Tryz.func95,rfl,by kernel_rfl⟩
instance:FnB Tryz.prog 96:=⟨_,Tryz.func96,rfl,by kernel_rfl⟩
instance:FnB Tryz.prog 97:=⟨_,Tryz.func97,rfl,by kernel_rfl⟩
instance:FnB Tryz.prog 98:=⟨_,Tryz.func98,rfl,by kernel_rfl⟩
instance:FnB Tryz.prog 99:=⟨_,Tryz.func99,rfl,by kernel_rfl⟩
instance:FnB Tryz.prog 100:=⟨_,Tryz.func100,rfl,by kernel_rfl⟩
instance:FnB Tryz.prog 101:=⟨_,Tryz.func101,rfl,by kernel_rfl⟩
instance:FnB Tryz.prog 102:=⟨_,Tryz.func102,rfl,by kernel_rfl⟩
instance:FnB Tryz.prog 103:=⟨_,Tryz.func103,rfl,by kernel_rfl⟩
instance:FnB Tryz.prog 104:=⟨_,Tryz.func104,rfl,by kernel_rfl⟩
instance:FnB Tryz.prog 105:=⟨_,Tryz.func105,rfl,by kernel_rfl⟩
instance:FnB Tryz.prog 106:=⟨_,Tryz.func106,rfl,by kernel_rfl⟩
instance:FnB Tryz.prog 107:=⟨_,Tryz.func107,rfl,by kernel_rfl⟩
instance:FnB Tryz.prog 108:=⟨_,Tryz.func108,rfl,by kernel_rfl⟩
instance:FnB Tryz.prog 109:=⟨_,Tryz.func109,rfl,by kernel_rfl⟩
instance:FnB Tryz.prog 110:=⟨_,Tryz.func110,rfl,by kernel_rfl⟩
instance:FnB Tryz.prog 111:=⟨_,Tryz.func111,rfl,by kernel_rfl⟩
instance:FnB Tryz.prog 112:=⟨_,Tryz.func112,rfl,by kernel_rfl⟩
instance:FnB Tryz.prog 113:=⟨_,Tryz.func113,rfl,by kernel_rfl⟩
instance:FnB Tryz.prog 114:=⟨_,Tryz.func114,rfl,by kernel_rfl⟩
instance:FnB Tryz.prog 115:=⟨_,Tryz.func115,rfl,by kernel_rfl⟩
instance:FnB Tryz.prog 116:=⟨_,Tryz.func116,rfl,by kernel_rfl⟩
instance:FnB Tryz.prog 117:=⟨_,Tryz.func117,rfl,by kernel_rfl⟩
instance:FnB Tryz.prog 118:=⟨_,Tryz.func118,rfl,by kernel_rfl⟩
instance:FnB Tryz.prog 119:=⟨_,Tryz.func119,rfl,by kernel_rfl⟩
instance:FnB Tryz.prog 120:=⟨_,Tryz.func120,rfl,by kernel_rfl⟩
instance:FnB Tryz.prog 121:=⟨_,Tryz.func121,rfl,by kernel_rfl⟩
instance:FnB Tryz.prog 122:=⟨_,Tryz.func122,rfl,by kernel_rfl⟩
instance:FnB Tryz.prog 123:=⟨_,Tryz.func123,rfl,by kernel_rfl⟩
instance:FnB Tryz.prog 124:=⟨_,Tryz.func124,rfl,by kernel_rfl⟩
instance:FnB Tryz.prog 125:=⟨_,Tryz.func125,rfl,by kernel_rfl⟩
instance:FnB Tryz.prog 126:=⟨_,Tryz.func126,rfl,by kernel_rfl⟩
instance:FnB Tryz.prog 127:=⟨_,Tryz.func127,rfl,by kernel_rfl⟩
instance:FnB Tryz.prog 128:=⟨_,Tryz.func128,rfl,by kernel_rfl⟩
instance:FnB Tryz.prog 129:=⟨_,Tryz.func129,rfl,by kernel_rfl⟩
instance:FnB Tryz.prog 130:=⟨_,Tryz.func130,rfl,by kernel_rfl⟩
instance:FnB Tryz.prog 131:=⟨_,Tryz.func131,rfl,by kernel_rfl⟩
instance:FnB Tryz.prog 132:=⟨_,Tryz.func132,rfl,by kernel_rfl⟩
instance:FnB Tryz.prog 133:=⟨_,Tryz.func133,rfl,by kernel_rfl⟩
instance:FnB Tryz.prog 134:=⟨_,Tryz.func134,rfl,by kernel_rfl⟩
instance:FnB Tryz.prog 135:=⟨_,Tryz.func135,rfl,by kernel_rfl⟩
instance:FnB Tryz.prog 136:=⟨_,Tryz.func136,rfl,by kernel_rfl⟩
instance:FnB Tryz.prog 137:=⟨_,Tryz.func137,rfl,by kernel_rfl⟩
instance:FnB Tryz.prog 138:=⟨_,Tryz.func138,rfl,by kernel_rfl⟩
instance:FnB Tryz.prog 139:=⟨_,Tryz.func139,rfl,by kernel_rfl⟩
instance:FnB Tryz.prog 140:=⟨_,Tryz.func140,rfl,by kernel_rfl⟩
instance:FnB Tryz.prog 141:=⟨_,Tryz.func141,rfl,by kernel_rfl⟩
instance:FnB Tryz.prog 142:=⟨_,Tryz.func142,rfl,by kernel_rfl⟩
instance:FnB Tryz.prog 143:=⟨_,Tryz.func143,rfl,by kernel_rfl⟩
instance:FnB Tryz.prog 144:=⟨_,Tryz.func144,rfl,by kernel_rfl⟩
instance:FnB Tryz.prog 145:=⟨_,Tryz.func145,rfl,by kernel_rfl⟩
instance:FnB Tryz.prog 146:=⟨_,Tryz.func146,rfl,by kernel_rfl⟩
instance:FnB Tryz.prog 147:=⟨_,Tryz.func147,rfl,by kernel_rfl⟩
instance:FnB Tryz.prog 148:=⟨_,Tryz.func148,rfl,by kernel_rfl⟩
instance:FnB Tryz.prog 149:=⟨_,Tryz.func149,rfl,by kernel_rfl⟩
instance:FnB Tryz.prog 150:=⟨_,Tryz.func150,rfl,by kernel_rfl⟩
instance:FnB Tryz.prog 151:=⟨_,Tryz.func151,rfl,by kernel_rfl⟩
instance:FnB Tryz.prog 152:=⟨_,Tryz.func152,rfl,by kernel_rfl⟩
instance:FnB Tryz.prog 153:=⟨_,Tryz.func153,rfl,by kernel_rfl⟩
instance:FnB Tryz.prog 154:=⟨_,Tryz.func154,rfl,by kernel_rfl⟩
instance:FnB Tryz.prog 155:=⟨_,Tryz.func155,rfl,by kernel_rfl⟩
instance:FnB Tryz.prog 156:=⟨_,Tryz.func156,rfl,by kernel_rfl⟩
instance:FnB Tryz.prog 157:=⟨_,Tryz.func157,rfl,by kernel_rfl⟩
instance:FnB Tryz.prog 158:=⟨_,Tryz.func158,rfl,by kernel_rfl⟩
instance:FnB Tryz.prog 159:=⟨_,Tryz.func159,rfl,by kernel_rfl⟩
instance:FnB Tryz.prog 160:=⟨_,Tryz.func160,rfl,by kernel_rfl⟩
instance:FnB Tryz.prog 161:=⟨_,Tryz.func161,rfl,by kernel_rfl⟩
instance:FnB Tryz.prog 162:=⟨_,Tryz.func162,rfl,by kernel_rfl⟩
instance:FnB Tryz.prog 163:=⟨_,Tryz.func163,rfl,by kernel_rfl⟩
instance:FnB Tryz.prog 164:=⟨_,Tryz.func164,rfl,by kernel_rfl⟩
instance:FnB Tryz.prog 165:=⟨_,Tryz.func165,rfl,by kernel_rfl⟩
instance:FnB Tryz.prog 166:=⟨_,Tryz.func166,rfl,by kernel_rfl⟩
instance:FnB Tryz.prog 167:=⟨_,Tryz.func167,rfl,by kernel_rfl⟩
instance:FnB Tryz.prog 168:=⟨_,Tryz.func168,rfl,by kernel_rfl⟩
instance:FnB Tryz.prog 169:=⟨_,Tryz.func169,rfl,by kernel_rfl⟩
instance:FnB Tryz.prog 170:=⟨_,Tryz.func170,rfl,by kernel_rfl⟩
instance:FnB Tryz.prog 171:=⟨_,Tryz.func171,rfl,by kernel_rfl⟩
instance:FnB Tryz.prog 172:=⟨_,Tryz.func172,rfl,by kernel_rfl⟩
instance:FnB Tryz.prog 173:=⟨_,Tryz.func173,rfl,by kernel_rfl⟩
instance:FnB Tryz.prog 174:=⟨_,Tryz.func174,rfl,by kernel_rfl⟩
instance:FnB Tryz.prog 175:=⟨_,Tryz.func175,rfl,by kernel_rfl⟩
instance:FnB Tryz.prog 176:=⟨_,Tryz.func176,rfl,by kernel_rfl⟩
instance:FnB Tryz.prog 177:=⟨_,Tryz.func177,rfl,by kernel_rfl⟩
instance:FnB Tryz.prog 178:=⟨_,Tryz.func178,rfl,by kernel_rfl⟩
instance:FnB Tryz.prog 179:=⟨_,Tryz.func179,rfl,by kernel_rfl⟩
instance:FnB Tryz.prog 180:=⟨_,Tryz.func180,rfl,by kernel_rfl⟩
instance:FnB Tryz.prog 181:=⟨_,Tryz.func181,rfl,by kernel_rfl⟩
instance:FnB Tryz.prog 182:=⟨_,Tryz.func182,rfl,by kernel_rfl⟩
instance:FnB Tryz.prog 183:=⟨_,Tryz.func183,rfl,by kernel_rfl⟩
instance:FnB Tryz.prog 184:=⟨_,Tryz.func184,rfl,by kernel_rfl⟩
instance:FnB Tryz.prog 185:=⟨_,Tryz.func185,rfl,by kernel_rfl⟩
instance:FnB Tryz.prog 186:=⟨_,Tryz.func186,rfl,by kernel_rfl⟩
instance:FnB Tryz.prog 187:=⟨_,Tryz.func187,rfl,by kernel_rfl⟩
instance:FnB Tryz.prog 188:=⟨_,Tryz.func188,rfl,by kernel_rfl⟩
instance:FnB Tryz.prog 189:=⟨_,Tryz.func189,rfl,by kernel_rfl⟩
instance:FnB Tryz.prog 190:=⟨_,Tryz.func190,rfl,by kernel_rfl⟩
instance:FnB Tryz.prog 191:=⟨_,Tryz.func191,rfl,by kernel_rfl⟩
instance:FnB Tryz.prog 192:=⟨_,Tryz.func192,rfl,by kernel_rfl⟩
instance:FnB Tryz.prog 194:=⟨_,Tryz.func194,rfl,by kernel_rfl⟩
instance:FnB Tryz.prog 196:=⟨_,Tryz.func196,rfl,by kernel_rfl⟩
instance:FnB Tryz.prog 197:=⟨_,Tryz.func197,rfl,by kernel_rfl⟩
instance:FnB Tryz.prog 198:=⟨_,Tryz.func198,rfl,by kernel_rfl⟩
instance:FnB Tryz.prog 199:=⟨_,Tryz.func199,rfl,by kernel_rfl⟩
instance:FnB Tryz.prog 200:=⟨_,Tryz.func200,rfl,by kernel_rfl⟩
instance:FnB Tryz.prog 201:=⟨_,Tryz.func201,rfl,by kernel_rfl⟩
instance:FnB Tryz.prog 202:=⟨_,Tryz.func202,rfl,by kernel_rfl⟩
instance:FnB Tryz.prog 203:=⟨_,Tryz.func203,rfl,by kernel_rfl⟩
instance:FnB Tryz.prog 204:=⟨_,Tryz.func204,rfl,by kernel_rfl⟩
instance:FnB Tryz.prog 205:=⟨_,Tryz.func205,rfl,by kernel_rfl⟩
instance:FnB Tryz.prog 206:=⟨_,Tryz.func206,rfl,by kernel_rfl⟩
instance:FnB Tryz.prog 207:=⟨_,Tryz.func207,rfl,by kernel_rfl⟩
instance:FnB Tryz.prog 208:=⟨_,Tryz.func208,rfl,by kernel_rfl⟩
instance:FnB Tryz.prog 209:=⟨_,Tryz.func209,rfl,by kernel_rfl⟩
instance:FnB Tryz.prog 210:=⟨_,Tryz.func210,rfl,by kernel_rfl⟩
instance:FnB Tryz.prog 211:=⟨_,Tryz.func211,rfl,by kernel_rfl⟩
instance:FnB Tryz.prog 213:=⟨_,Tryz.func213,rfl,by kernel_rfl⟩
instance:FnB Tryz.prog 214:=⟨_,Tryz.func214,rfl,by kernel_rfl⟩
instance:FnB Tryz.prog 215:=⟨_,Tryz.func215,rfl,by kernel_rfl⟩
instance:FnB Tryz.prog 216:=⟨_,Tryz.func216,rfl,by kernel_rfl⟩
instance:FnB Tryz.prog 217:=⟨_,Tryz.func217,rfl,by kernel_rfl⟩
instance:FnB Tryz.prog 218:=⟨_,Tryz.func218,rfl,by kernel_rfl⟩
instance:FnB Tryz.prog 242:=⟨_,Tryz.func242,rfl,by kernel_rfl⟩
theorem mixed:Tryz.prog.follows .mixedOrders=true:=by kernel_rfl
set_option linter.unusedVariables false
structure Vec (α:Type) where
  o:Option Addr
  c:Nat
  l:List α
structure Cod where
  k:Int
  a:Int
  rk:Int
  rn:Int
  rs:Option Addr × Nat × Nat
  ra:Option Addr × Nat × Nat
  al:Option Addr × Nat × Nat
  ns:Option Addr × Nat × Nat
  to:Vec Int
def encT3 (s:Option Addr × Nat × Nat):Value:=.slice s.1 s.2.1 s.2.2
def encCo (c:Cod):List Value:=[.int .i64 c.k,.int .i64 c.a,.int .i64 c.rk,.int .i64 c.rn,encT3 c.rs,encT3 c.ra,encT3 c.al,encT3 c.ns,.slice c.to.o c.to.l.length c.to.c]
theorem encCo_len (c:Cod):(encCo c).length=9:=rfl
structure CF where
  caps:Int
  regs:Int
  cs:Vec Cod
def encF (f:CF):List Value:=[.int .i64 f.caps,.int .i64 f.regs,.slice f.cs.o f.cs.l.length f.cs.c]
def RdV {α:Type} (w:World) (enc:α→List Value) (v:Vec α):Prop:=Rd w v.o (flat enc v.l)∧v.l.length≤v.c∧v.c≤maxLen
theorem RdV.keep {α:Type} {w w':World} {enc:α→List Value} {v:Vec α} (h:RdV w enc v) (hk:Kp w noM w'):RdV w' enc v:=⟨((HS.init w noM).keep hk).rd h.1 id,h.2⟩
theorem RdV.le {α:Type} {w:World} {enc:α→List Value} {v:Vec α} (h:RdV w enc v):v.l.length≤9223372036854775807:=by
  have h1:=h.2
  unfold maxLen at h1
  omega
def Few (c:Cod):Prop:=c.rs.2.1≤1048576∧c.ra.2.1≤1048576∧c.al.2.1≤1048576∧c.ns.2.1≤1048576∧c.to.l.length≤1048576
def RdF (w:World) (f:CF):Prop:=RdV w encCo f.cs∧(∀c∈f.cs.l,RdV w Fw.encI c.to∧Few c)∧f.cs.l.length≤1048576
theorem RdF.keep {w w':World} {f:CF} (h:RdF w f) (hk:Kp w noM w'):RdF w' f:=⟨h.1.keep hk,fun c hc=>⟨(h.2.1 c hc).1.keep hk,(h.2.1 c hc).2⟩,h.2.2⟩
def cod0:Cod:=⟨0,0,0,0,(none,0,0),(none,0,0),(none,0,0),(none,0,0),⟨none,0,[]⟩⟩
def simP (c:Cod):Bool:=decide (c.k=1) && (decide (c.rk=1) || (decide (c.rk=2) && decide (1≤c.rn) && decide (c.rn≤9)))
def goalsOf (l:List Cod):List Int:=l.flatMap fun c=>c.to.l
def canJ (l:List Cod) (n:Nat):Bool:=decide (n+1<l.length) && simP (l.getD n cod0) && !decide (((n:Int)+1)∈goalsOf l)
def isJ (l:List Cod):Nat→Bool
  |0=>canJ l 0
  |n+1=>canJ l (n+1) && !isJ l n
def joins (l:List Cod):Nat→List Int
  |0=>[]
  |n+1=>if isJ l n then joins l n++[(n:Int)] else joins l n
def behind (l:List Cod):Nat→Bool
  |0=>false
  |n+1=>isJ l n
def nexts (l:List Cod):Nat→Nat
  |0=>0
  |n+1=>if behind l n then nexts l n else nexts l n+1
def places (l:List Cod):Nat→List Int
  |0=>[]
  |n+1=>places l n++[if behind l n then -1 else (nexts l n:Int)]
def ahead (l:List Cod):Nat→Nat
  |0=>0
  |n+1=>if canJ l n then ahead l n+1 else 0
theorem isJ_ahead (l:List Cod):∀n,isJ l n=(canJ l n && decide (ahead l n % 2=0))
  |0=>by simp [isJ,ahead]
  | n + 1=>by
    rw [isJ,isJ_ahead l n,ahead]
    cases canJ l n with
    |false=>simp
    | true=>
      simp only [Bool.true_and,if_true]
      congr 1
      by_cases h:ahead l n % 2=0
      · have:¬(ahead l n+1) % 2=0:=by omega
        simp [h,this]
      · have:(ahead l n+1) % 2=0:=by omega
        simp [h,this]
theorem isJ_can {l:List Cod} {n:Nat} (h:isJ l n=true):canJ l n=true:=by
  rw [isJ_ahead] at h
  exact (Bool.and_eq_true _ _▸h).1
theorem isJ_lt {l:List Cod} {n:Nat} (h:isJ l n=true):n+1<l.length:=by
  have:=isJ_can h
  unfold canJ at this
  simp at this
  exact this.1.1
theorem joins_mem (l:List Cod):∀n (x:Int),x∈joins l n↔∃k:Nat,k<n∧x=k∧isJ l k=true
  |0,x=>by simp [joins]
  | n + 1,x=>by
    rw [joins]
    by_cases h:isJ l n=true
    · rw [if_pos h,List.mem_append,joins_mem l n,List.mem_singleton]
      constructor
      · rintro (⟨k,h1,h2,h3⟩|rfl)
        · exact ⟨k,by omega,h2,h3⟩
        · exact ⟨n,by omega,rfl,h⟩
      · rintro ⟨k,h1,h2,h3⟩
        by_cases hk:k=n
        · subst hk;exact .inr h2
        · exact .inl ⟨k,by omega,h2,h3⟩
    · rw [if_neg h,joins_mem l n]
      constructor
      · rintro ⟨k,h1,h2,h3⟩
        exact ⟨k,by omega,h2,h3⟩
      · rintro ⟨k,h1,h2,h3⟩
        by_cases hk:k=n
        · subst hk;exact absurd h3 h
        · exact ⟨k,by omega,h2,h3⟩
theorem joins_len (l:List Cod):∀n,(joins l n).length≤n
  |0=>Nat.le_refl 0
  | n+1=>by
    rw [joins]
    have:=joins_len l n
    split
    · rw [List.length_append,List.length_singleton];omega
    · omega
theorem joins_sorted (l:List Cod):∀n,(joins l n).Pairwise (·< ·)
  |0=>List.Pairwise.nil
  | n +1=>by
    rw [joins]
    split
    · refine List.pairwise_append.2 ⟨joins_sorted l n,List.pairwise_singleton _ _,fun x hx y hy=>?_⟩
      obtain ⟨k,h1,h2,_⟩:=(joins_mem l n x).1 hx
      rw [List.mem_singleton] at hy
      omega
    · exact joins_sorted l n
theorem joins_at (l:List Cod):∀n m,n≤m→∃t,joins l m=joins l n++t
  |n,0,h=>⟨[],by rw [show n=0 by omega];rfl⟩
  | n,m+1,h=>by
    by_cases hn:n=m+1
    · exact ⟨[],by rw [hn,List.append_nil]⟩
    · obtain ⟨t,ht⟩:=joins_at l n m (by omega)
      rw [joins,ht]
      split
      · exact ⟨_,by rw [List.append_assoc]⟩
      · exact ⟨t,rfl⟩
theorem joins_get {l:List Cod} {n m:Nat} (h:n<m) (hj:isJ l n=true):(joins l m)[(joins l n).length]?=some (n:Int):=by
  obtain ⟨t,ht⟩:=joins_at l (n+1) m h
  rw [ht,joins,if_pos hj]
  simp
theorem joins_end {l:List Cod} {n m:Nat} (h:n≤m) (hj:∀k,n≤k→k<m→isJ l k=false):joins l m=joins l n:=by
  induction m with
  |zero=>rw [show n=0 by omega]
  | succ m ih=>
    by_cases hn:n=m+1
    · rw [hn]
    · rw [joins,hj m (by omega) (by omega)]
      simp only [Bool.false_eq_true,if_false]
      exact ih (by omega) fun k h1 h2=>hj k h1 (by omega)
theorem places_len (l:List Cod):∀n,(places l n).length=n
  |0=>rfl
  |n+1=>by rw [places,List.length_append,places_len l n];rfl
theorem places_get (l:List Cod):∀n m,n<m→(places l m)[n]?=some (if behind l n then -1 else (nexts l n:Int))
  |n,0,h=>by omega
  | n,m+1,h=>by
    rw [places]
    by_cases hn:n=m
    · subst hn
      rw [List.getElem?_append_right (by rw [places_len];exact Nat.le_refl _),places_len,Nat.sub_self]
      rfl
    · rw [List.getElem?_append_left (by rw [places_len];omega)]
      exact places_get l n m (by omega)
theorem nexts_le (l:List Cod):∀n,nexts l n≤n
  |0=>Nat.le_refl 0
  | n+1=>by
    rw [nexts]
    have:=nexts_le l n
    split<;>omega
theorem take_snoc {α:Type} {l:List α} {i:Nat} {x:α} (h:l[i]?=some x):l.take (i+1)=l.take i++[x]:=by
  rw [List.take_add_one,h];rfl
theorem goals_next {l:List Cod} {i:Nat} {c:Cod} (h:l[i]?=some c):goalsOf (l.take (i+1))=goalsOf (l.take i)++c.to.l:=by
  unfold goalsOf
  rw [take_snoc h,List.flatMap_append]
  simp
theorem goals_mem {l:List Cod} {i j:Nat} {c:Cod} {x:Int} (h:l[i]?=some c) (hx:c.to.l[j]?=some x):x∈goalsOf l:=List.mem_flatMap.2 ⟨c,List.mem_of_getElem? h,List.mem_of_getElem? hx⟩
section
attribute [local irreducible] Code.wp wpList Calls Ex Op1 sat bat blk cb own Go.Fw.mp Go.Fw.mpO Go.Fw.mpI Go.Fw.mpE Go.Fw.itr HS Rd Ret wkD Hp Cl Cls Exit.then Exit.inBlock Exit.noGoto bodyPost Go.Fw.flat wk2 Go.Fw.all Go.Fw.owns wpOp
attribute [local irreducible] goalsOf
theorem simple_spec (w0:World) (c:Cod):Ret Tryz.prog 14 #[.agg (encCo c).toArray] w0 (fun r w=>r= .bool (simP c)∧Kp w0 noM w):=by
  have hH:HS w0 noM [] w0:=HS.init w0 noM
  (refine ENT (N:=30) Tryz.func14 Tryz.ntmps14 ?_;intro a hA)
  repeat' (first|(first|(refine GT ?_ ?_<;>intro hg<;>clear hA a<;>intro a hA<;>(first|exact FA|replace hg:=dTr hg|replace hg:=dFa hg|skip))|(refine QT ?_;clear hA a;intro a hA)|(first|(refine BT ?_;clear hA hH;rintro _ w ⟨bN,rfl,hH⟩ a hA)|(refine LT ?_;clear hA hH;rintro _ w ⟨oN,rfl,hH⟩ a hA)|(refine AT ?_;clear hA;rintro _ w ⟨oN,cN,rfl,hH2⟩ a hA;clear hH;have hH:=(hH2 _ (by (repeat constructor))).tail;clear hH2)|(refine S0T ?_;clear hH;rintro _ w hH)))|refine CT ?_|(refine DT ?_ ?_<;>intro hc<;>try (exfalso;omega))|(first|(refine DSK ?_;clear hA a;intro a hA)|(first|(refine DLT ?_;clear hA hH;rintro _ w ⟨oN,rfl,hH⟩;refine ⟨STT,?_⟩;intro a hA)|(refine DAT ?_;clear hA;rintro _ w ⟨oN,cN,rfl,hH2⟩;clear hH;have hH:=(hH2 _ (by (repeat constructor))).tail;clear hH2;refine ⟨STT,?_⟩;intro a hA))))
  all_goals exact rt1 (.inl rfl) rfl hA rfl ⟨by simp only [simP];first|(simp_all;done)|(simp_all;omega),hH.kp⟩
theorem goal_spec (w0:World) (f:CF) (n:Int) (hR:RdF w0 f):Ret Tryz.prog 16 #[.agg (encF f).toArray,.int .i64 n] w0 (fun r w=>r= .bool (decide (n∈goalsOf f.cs.l))∧Kp w0 noM w):=by
  have hH:HS w0 noM [] w0:=HS.init w0 noM
  have hle:=hR.2.2
  have hsp:Sp f.cs.o f.cs.l.length:=hR.1.1.sp (sz:=9) (flat_length encCo_len _) (by omega)
  (refine ENT (N:=36) Tryz.func16 Tryz.ntmps16 ?_;intro a hA)
  repeat' (first|(first|(refine GT ?_ ?_<;>intro hg<;>clear hA a<;>intro a hA<;>(first|exact FA|replace hg:=dTr hg|replace hg:=dFa hg|skip))|(refine QT ?_;clear hA a;intro a hA)|(first|(refine BT ?_;clear hA hH;rintro _ w ⟨bN,rfl,hH⟩ a hA)|(refine LT ?_;clear hA hH;rintro _ w ⟨oN,rfl,hH⟩ a hA)|(refine AT ?_;clear hA;rintro _ w ⟨oN,cN,rfl,hH2⟩ a hA;clear hH;have hH:=(hH2 _ (by (repeat constructor))).tail;clear hH2)|(refine S0T ?_;clear hH;rintro _ w hH)))|refine CT ?_|(refine DT ?_ ?_<;>intro hc<;>try (exfalso;omega))|(first|(refine DSK ?_;clear hA a;intro a hA)|(first|(refine DLT ?_;clear hA hH;rintro _ w ⟨oN,rfl,hH⟩;refine ⟨STT,?_⟩;intro a hA)|(refine DAT ?_;clear hA;rintro _ w ⟨oN,cN,rfl,hH2⟩;clear hH;have hH:=(hH2 _ (by (repeat constructor))).tail;clear hH2;refine ⟨STT,?_⟩;intro a hA))))
  obtain ⟨bF,hbF⟩:∃x,x=bN:=⟨_,rfl⟩
  rw [←hbF] at hA hH
  clear hbF bN
  refine wp_lpk (S:=Nat) (fun i a w=>(i≤f.cs.l.length∧n ∉ goalsOf (f.cs.l.take i))∧HS w0 noM [cb bF 24 (encF f)] w∧Sl 36 [(2,.pointer (some (bat bF 0))),(1,.int .i64 n),(5,.int .i64 i)] a) (fun i=>f.cs.l.length - i)
    (fun a w=>n ∉ goalsOf f.cs.l∧HS w0 noM [cb bF 24 (encF f)] w∧Sl 36 [] a) 0 ⟨⟨Nat.zero_le _,by rw [List.take_zero];unfold goalsOf;exact List.not_mem_nil⟩,hH,(hA.sub SBT)⟩ ?_ ?_
  · clear hA hH
    rintro i a w ⟨⟨hi,hn⟩,hH,hA⟩
    by_cases hlt:i<f.cs.l.length
    rotate_left
    · obtain rfl:i=f.cs.l.length:=by omega
      rw [List.take_length] at hn
      repeat' (first|(first|(refine GT ?_ ?_<;>intro hg<;>clear hA a<;>intro a hA<;>(first|exact FA|replace hg:=dTr hg|replace hg:=dFa hg|skip))|(refine QT ?_;clear hA a;intro a hA)|(first|(refine BT ?_;clear hA hH;rintro _ w ⟨bN,rfl,hH⟩ a hA)|(refine LT ?_;clear hA hH;rintro _ w ⟨oN,rfl,hH⟩ a hA)|(refine AT ?_;clear hA;rintro _ w ⟨oN,cN,rfl,hH2⟩ a hA;clear hH;have hH:=(hH2 _ (by (repeat constructor))).tail;clear hH2)|(refine S0T ?_;clear hH;rintro _ w hH)))|refine CT ?_|(refine DT ?_ ?_<;>intro hc<;>try (exfalso;omega))|(first|(refine DSK ?_;clear hA a;intro a hA)|(first|(refine DLT ?_;clear hA hH;rintro _ w ⟨oN,rfl,hH⟩;refine ⟨STT,?_⟩;intro a hA)|(refine DAT ?_;clear hA;rintro _ w ⟨oN,cN,rfl,hH2⟩;clear hH;have hH:=(hH2 _ (by (repeat constructor))).tail;clear hH2;refine ⟨STT,?_⟩;intro a hA))))
      exact ⟨hn,hH,(hA.sub SBT)⟩
    obtain ⟨c,hci⟩:∃c,f.cs.l[i]?=some c:=⟨_,List.getElem?_eq_getElem hlt⟩
    have hcR:=(hR.2.1 c (List.mem_of_getElem? hci)).1
    have hvs:=flat_all encCo_len hci
    have hleT:=hcR.le
    have hspT:Sp c.to.o c.to.l.length:=hcR.1.sp (sz:=1) (flat_length Fw.encI_len _) (by omega)
    have hT:(flat encCo f.cs.l)[i*9+8]?=some (.slice c.to.o c.to.l.length c.to.c):=flat_get (off:=8) encCo_len hci rfl
    repeat' (first|(first|(refine GT ?_ ?_<;>intro hg<;>clear hA a<;>intro a hA<;>(first|exact FA|replace hg:=dTr hg|replace hg:=dFa hg|skip))|(refine QT ?_;clear hA a;intro a hA)|(first|(refine BT ?_;clear hA hH;rintro _ w ⟨bN,rfl,hH⟩ a hA)|(refine LT ?_;clear hA hH;rintro _ w ⟨oN,rfl,hH⟩ a hA)|(refine AT ?_;clear hA;rintro _ w ⟨oN,cN,rfl,hH2⟩ a hA;clear hH;have hH:=(hH2 _ (by (repeat constructor))).tail;clear hH2)|(refine S0T ?_;clear hH;rintro _ w hH)))|refine CT ?_|(refine DT ?_ ?_<;>intro hc<;>try (exfalso;omega))|(first|(refine DSK ?_;clear hA a;intro a hA)|(first|(refine DLT ?_;clear hA hH;rintro _ w ⟨oN,rfl,hH⟩;refine ⟨STT,?_⟩;intro a hA)|(refine DAT ?_;clear hA;rintro _ w ⟨oN,cN,rfl,hH2⟩;clear hH;have hH:=(hH2 _ (by (repeat constructor))).tail;clear hH2;refine ⟨STT,?_⟩;intro a hA))))
    refine wp_lpk (S:=Nat) (fun j a w=>(j≤c.to.l.length∧n ∉ c.to.l.take j)∧HS w0 noM [cb bF 24 (encF f)] w∧Sl 36 [(2,.pointer (some (bat bF 0))),(1,.int .i64 n),(5,.int .i64 i),(6,.int .i64 j)] a) (fun j=>c.to.l.length - j)
      (fun a w=>n ∉ c.to.l∧HS w0 noM [cb bF 24 (encF f)] w∧Sl 36 [(2,.pointer (some (bat bF 0))),(1,.int .i64 n),(5,.int .i64 i)] a) 0 ⟨⟨Nat.zero_le _,by rw [List.take_zero];exact List.not_mem_nil⟩,hH,(hA.sub SBT)⟩ ?_ ?_
    · clear hA hH
      rintro j a w ⟨⟨hj,hnj⟩,hH,hA⟩
      by_cases hlj:j<c.to.l.length
      rotate_left
      · obtain rfl:j=c.to.l.length:=by omega
        rw [List.take_length] at hnj
        repeat' (first|(first|(refine GT ?_ ?_<;>intro hg<;>clear hA a<;>intro a hA<;>(first|exact FA|replace hg:=dTr hg|replace hg:=dFa hg|skip))|(refine XT ?_;apply XE;(first|(apply ex_load;rfl;exact cl_rd hR.1.1 id hT));clear hA a;intro a hA)|(refine QT ?_;clear hA a;intro a hA)|(first|(refine BT ?_;clear hA hH;rintro _ w ⟨bN,rfl,hH⟩ a hA)|(refine LT ?_;clear hA hH;rintro _ w ⟨oN,rfl,hH⟩ a hA)|(refine AT ?_;clear hA;rintro _ w ⟨oN,cN,rfl,hH2⟩ a hA;clear hH;have hH:=(hH2 _ (by (repeat constructor))).tail;clear hH2)|(refine S0T ?_;clear hH;rintro _ w hH)))|refine CT ?_|(refine DT ?_ ?_<;>intro hc<;>try (exfalso;omega))|(first|(refine DSK ?_;clear hA a;intro a hA)|(first|(refine DLT ?_;clear hA hH;rintro _ w ⟨oN,rfl,hH⟩;refine ⟨STT,?_⟩;intro a hA)|(refine DAT ?_;clear hA;rintro _ w ⟨oN,cN,rfl,hH2⟩;clear hH;have hH:=(hH2 _ (by (repeat constructor))).tail;clear hH2;refine ⟨STT,?_⟩;intro a hA))))
        exact ⟨hnj,hH,(hA.sub SBT)⟩
      obtain ⟨x,hx⟩:∃x,c.to.l[j]?=some x:=⟨_,List.getElem?_eq_getElem hlj⟩
      have hv:(flat Fw.encI c.to.l)[j*1]?=some (.int .i64 x):=flat_get (off:=0) Fw.encI_len hx rfl
      repeat' (first|(first|(refine GT ?_ ?_<;>intro hg<;>clear hA a<;>intro a hA<;>(first|exact FA|replace hg:=dTr hg|replace hg:=dFa hg|skip))|(refine XT ?_;apply XE;(first|(apply ex_load;rfl;exact cl_rd hR.1.1 id hT)|(apply ex_load;rfl;exact cl_rd hcR.1 id hv));clear hA a;intro a hA)|(refine QT ?_;clear hA a;intro a hA)|(first|(refine BT ?_;clear hA hH;rintro _ w ⟨bN,rfl,hH⟩ a hA)|(refine LT ?_;clear hA hH;rintro _ w ⟨oN,rfl,hH⟩ a hA)|(refine AT ?_;clear hA;rintro _ w ⟨oN,cN,rfl,hH2⟩ a hA;clear hH;have hH:=(hH2 _ (by (repeat constructor))).tail;clear hH2)|(refine S0T ?_;clear hH;rintro _ w hH)))|refine CT ?_|(refine DT ?_ ?_<;>intro hc<;>try (exfalso;omega))|(first|(refine DSK ?_;clear hA a;intro a hA)|(first|(refine DLT ?_;clear hA hH;rintro _ w ⟨oN,rfl,hH⟩;refine ⟨STT,?_⟩;intro a hA)|(refine DAT ?_;clear hA;rintro _ w ⟨oN,cN,rfl,hH2⟩;clear hH;have hH:=(hH2 _ (by (repeat constructor))).tail;clear hH2;refine ⟨STT,?_⟩;intro a hA))))
      · subst hc
        exact rt1 (.inl rfl) rfl hA rfl ⟨by rw [decide_eq_true (goals_mem hci hx)],hH.kp⟩
      · exact ⟨j+1,⟨⟨hlj,by rw [take_snoc hx,List.mem_append,List.mem_singleton];exact fun h=>h.elim hnj fun e=>hc e.symm⟩,hH,(hA.sub SBT)⟩,by omega⟩
    clear hA hH
    rintro a w ⟨hnc,hH,hA⟩
    repeat' (first|(first|(refine GT ?_ ?_<;>intro hg<;>clear hA a<;>intro a hA<;>(first|exact FA|replace hg:=dTr hg|replace hg:=dFa hg|skip))|(refine QT ?_;clear hA a;intro a hA)|(first|(refine BT ?_;clear hA hH;rintro _ w ⟨bN,rfl,hH⟩ a hA)|(refine LT ?_;clear hA hH;rintro _ w ⟨oN,rfl,hH⟩ a hA)|(refine AT ?_;clear hA;rintro _ w ⟨oN,cN,rfl,hH2⟩ a hA;clear hH;have hH:=(hH2 _ (by (repeat constructor))).tail;clear hH2)|(refine S0T ?_;clear hH;rintro _ w hH)))|refine CT ?_|(refine DT ?_ ?_<;>intro hc<;>try (exfalso;omega))|(first|(refine DSK ?_;clear hA a;intro a hA)|(first|(refine DLT ?_;clear hA hH;rintro _ w ⟨oN,rfl,hH⟩;refine ⟨STT,?_⟩;intro a hA)|(refine DAT ?_;clear hA;rintro _ w ⟨oN,cN,rfl,hH2⟩;clear hH;have hH:=(hH2 _ (by (repeat constructor))).tail;clear hH2;refine ⟨STT,?_⟩;intro a hA))))
    exact ⟨i+1,⟨⟨hlt,by rw [goals_next hci,List.mem_append];exact fun h=>h.elim hn hnc⟩,hH,(hA.sub SBT)⟩,by omega⟩
  clear hA hH
  rintro a w ⟨hn,hH,hA⟩
  repeat' (first|(first|(refine GT ?_ ?_<;>intro hg<;>clear hA a<;>intro a hA<;>(first|exact FA|replace hg:=dTr hg|replace hg:=dFa hg|skip))|(refine QT ?_;clear hA a;intro a hA)|(first|(refine BT ?_;clear hA hH;rintro _ w ⟨bN,rfl,hH⟩ a hA)|(refine LT ?_;clear hA hH;rintro _ w ⟨oN,rfl,hH⟩ a hA)|(refine AT ?_;clear hA;rintro _ w ⟨oN,cN,rfl,hH2⟩ a hA;clear hH;have hH:=(hH2 _ (by (repeat constructor))).tail;clear hH2)|(refine S0T ?_;clear hH;rintro _ w hH)))|refine CT ?_|(refine DT ?_ ?_<;>intro hc<;>try (exfalso;omega))|(first|(refine DSK ?_;clear hA a;intro a hA)|(first|(refine DLT ?_;clear hA hH;rintro _ w ⟨oN,rfl,hH⟩;refine ⟨STT,?_⟩;intro a hA)|(refine DAT ?_;clear hA;rintro _ w ⟨oN,cN,rfl,hH2⟩;clear hH;have hH:=(hH2 _ (by (repeat constructor))).tail;clear hH2;refine ⟨STT,?_⟩;intro a hA))))
  exact rt1 (.inl rfl) rfl hA rfl ⟨by rw [decide_eq_false hn],hH.kp⟩
end
structure Bs (xs:List Int) (t:Int) (i j:Nat):Prop where
  ij:i≤j
  jn:j≤xs.length
  lo:∀k x,k<i→xs[k]?=some x→x<t
  hi:∀k x,j≤k→xs[k]?=some x→t≤x
theorem Bs.found {xs:List Int} {t:Int} {i:Nat} (h:Bs xs t i i) (hs:xs.Pairwise (·< ·)):t∈xs↔xs[i]?=some t:=by
  refine ⟨fun hm=>?_,List.mem_of_getElem?⟩
  obtain ⟨k,hk⟩:=List.getElem?_of_mem hm
  have hkl:=(List.getElem?_eq_some_iff.1 hk).1
  rcases Nat.lt_trichotomy k i with h1|h1|h1
  · have:=h.lo k t h1 hk;omega
  · rw [←h1];exact hk
  · have hil:i<xs.length:=by omega
    have h2:=List.pairwise_iff_getElem.1 hs i k hil hkl h1
    have h3:=h.hi i xs[i] (Nat.le_refl i) (List.getElem?_eq_getElem hil)
    have h4:xs[k]=t:=by
      have:=hk
      rw [List.getElem?_eq_getElem hkl] at this
      exact Option.some.inj this
    omega
theorem Bs.right {xs:List Int} {t x:Int} {i j h:Nat} (b:Bs xs t i j) (hs:xs.Pairwise (·< ·)) (h1:i≤h) (h2:h<j) (hx:xs[h]?=some x) (hlt:x<t):Bs xs t (h+1) j:=by
  refine ⟨by omega,b.jn,fun k y hk hy=>?_,b.hi⟩
  rcases Nat.lt_or_eq_of_le (Nat.le_of_lt_succ hk) with h3|h3
  · have hkl:=(List.getElem?_eq_some_iff.1 hy).1
    have hhl:=(List.getElem?_eq_some_iff.1 hx).1
    have:=List.pairwise_iff_getElem.1 hs k h hkl hhl h3
    have e1:xs[k]=y:=(List.getElem?_eq_some_iff.1 hy).2
    have e2:xs[h]=x:=(List.getElem?_eq_some_iff.1 hx).2
    omega
  · rw [h3,hx] at hy
    cases hy
    exact hlt
theorem Bs.left {xs:List Int} {t x:Int} {i j h:Nat} (b:Bs xs t i j) (hs:xs.Pairwise (·< ·)) (h1:i≤h) (h2:h<j) (hx:xs[h]?=some x) (hge:¬x<t):Bs xs t i h:=by
  refine ⟨h1,by have:=b.jn;omega,b.lo,fun k y hk hy=>?_⟩
  rcases Nat.lt_or_eq_of_le hk with h3|h3
  · have hkl:=(List.getElem?_eq_some_iff.1 hy).1
    have hhl:=(List.getElem?_eq_some_iff.1 hx).1
    have:=List.pairwise_iff_getElem.1 hs h k hhl hkl h3
    have e1:xs[k]=y:=(List.getElem?_eq_some_iff.1 hy).2
    have e2:xs[h]=x:=(List.getElem?_eq_some_iff.1 hx).2
    omega
  · rw [←h3,hx] at hy
    cases hy
    omega
theorem ex_conv {P:Program} {N:Nat} {l:List (Nat × Value)} {C:World→Prop} {d:Option Tmp} {T:TypeId} {pos:String} {af:Array Edge} {g:Option (Nat × Bool)} {src dst:TypeId} {ks kd k:IntKind} {x:Operand} {m v:Int} [hs:TIn P src ks] [hd:TIn P dst kd] (hx:ev l x=some (.int k m)) (hv:kd.wrap m=v) :
    Ex P N l C ⟨d,.convert src dst x,T,pos,af,g⟩ (.int kd v):=by
  intro a w hA _
  simp [execOp,hA.ev hx,convert,run_underlying hs.eq,run_underlying hd.eq,Conv.intToInt,hv]
theorem wrap_u {m:Int} (h0:0≤m) (h1:m<18446744073709551616):IntKind.u64.wrap m=m:=by
  simp [IntKind.wrap,IntKind.bits,IntKind.signed]
  omega
theorem wrap_i {m:Int} (h0:0≤m) (h1:m<9223372036854775808):IntKind.i64.wrap m=m:=by
  simp [IntKind.wrap,IntKind.bits,IntKind.signed]
  omega
theorem half_shr (i j:Nat):shrK .u64 ((i:Int)+j) 1=((i+j) / 2:Nat):=by
  have h:shrK .u64 ((i:Int)+j) 1=((i:Int)+j).fdiv 2:=rfl
  rw [h,Int.fdiv_eq_ediv_of_nonneg _ (by omega)]
  omega
section
attribute [local irreducible] Code.wp wpList Calls Ex Op1 sat bat blk cb own Go.Fw.mp Go.Fw.mpO Go.Fw.mpI Go.Fw.mpE Go.Fw.itr HS Rd Ret wkD Hp Cl Cls Exit.then Exit.inBlock Exit.noGoto bodyPost Go.Fw.flat wk2 Go.Fw.all Go.Fw.owns wpOp
theorem nan1_spec (w0:World) (x:Int):Ret Tryz.prog 55 #[.int .i64 x] w0 (fun r w=>r= .bool false∧Kp w0 noM w):=by
  have hH:HS w0 noM [] w0:=HS.init w0 noM
  (refine ENT (N:=6) Tryz.func55 Tryz.ntmps55 ?_;intro a hA)
  repeat' (first|(first|(refine GT ?_ ?_<;>intro hg<;>clear hA a<;>intro a hA<;>(first|exact FA|replace hg:=dTr hg|replace hg:=dFa hg|skip))|(refine QT ?_;clear hA a;intro a hA)|(first|(refine BT ?_;clear hA hH;rintro _ w ⟨bN,rfl,hH⟩ a hA)|(refine LT ?_;clear hA hH;rintro _ w ⟨oN,rfl,hH⟩ a hA)|(refine AT ?_;clear hA;rintro _ w ⟨oN,cN,rfl,hH2⟩ a hA;clear hH;have hH:=(hH2 _ (by (repeat constructor))).tail;clear hH2)|(refine S0T ?_;clear hH;rintro _ w hH)))|refine CT ?_|(refine DT ?_ ?_<;>intro hc<;>try (exfalso;omega))|(first|(refine DSK ?_;clear hA a;intro a hA)|(first|(refine DLT ?_;clear hA hH;rintro _ w ⟨oN,rfl,hH⟩;refine ⟨STT,?_⟩;intro a hA)|(refine DAT ?_;clear hA;rintro _ w ⟨oN,cN,rfl,hH2⟩;clear hH;have hH:=(hH2 _ (by (repeat constructor))).tail;clear hH2;refine ⟨STT,?_⟩;intro a hA))))
  exact rt1 (.inl rfl) rfl hA rfl ⟨by simp,hH.kp⟩
theorem nan2_spec (w0:World) (x:Int):Ret Tryz.prog 26 #[.int .i64 x] w0 (fun r w=>r= .bool false∧Kp w0 noM w):=by
  have hH:HS w0 noM [] w0:=HS.init w0 noM
  (refine ENT (N:=6) Tryz.func26 Tryz.ntmps26 ?_;intro a hA)
  repeat' (first|(first|(refine GT ?_ ?_<;>intro hg<;>clear hA a<;>intro a hA<;>(first|exact FA|replace hg:=dTr hg|replace hg:=dFa hg|skip))|(refine QT ?_;clear hA a;intro a hA)|(first|(refine BT ?_;clear hA hH;rintro _ w ⟨bN,rfl,hH⟩ a hA)|(refine LT ?_;clear hA hH;rintro _ w ⟨oN,rfl,hH⟩ a hA)|(refine AT ?_;clear hA;rintro _ w ⟨oN,cN,rfl,hH2⟩ a hA;clear hH;have hH:=(hH2 _ (by (repeat constructor))).tail;clear hH2)|(refine S0T ?_;clear hH;rintro _ w hH)))|refine CT ?_|(refine DT ?_ ?_<;>intro hc<;>try (exfalso;omega))|(first|(refine DSK ?_;clear hA a;intro a hA)|(first|(refine DLT ?_;clear hA hH;rintro _ w ⟨oN,rfl,hH⟩;refine ⟨STT,?_⟩;intro a hA)|(refine DAT ?_;clear hA;rintro _ w ⟨oN,cN,rfl,hH2⟩;clear hH;have hH:=(hH2 _ (by (repeat constructor))).tail;clear hH2;refine ⟨STT,?_⟩;intro a hA))))
  exact rt1 (.inl rfl) rfl hA rfl ⟨by simp,hH.kp⟩
theorem less_spec (w0:World) (x y:Int):Ret Tryz.prog 25 #[.int .i64 x,.int .i64 y] w0 (fun r w=>r= .bool (decide (x<y))∧Kp w0 noM w):=by
  have hH:HS w0 noM [] w0:=HS.init w0 noM
  (refine ENT (N:=17) Tryz.func25 Tryz.ntmps25 ?_;intro a hA)
  repeat' (first|(first|(refine GT ?_ ?_<;>intro hg<;>clear hA a<;>intro a hA<;>(first|exact FA|replace hg:=dTr hg|replace hg:=dFa hg|skip))|(refine QT ?_;clear hA a;intro a hA)|(first|(refine BT ?_;clear hA hH;rintro _ w ⟨bN,rfl,hH⟩ a hA)|(refine LT ?_;clear hA hH;rintro _ w ⟨oN,rfl,hH⟩ a hA)|(refine AT ?_;clear hA;rintro _ w ⟨oN,cN,rfl,hH2⟩ a hA;clear hH;have hH:=(hH2 _ (by (repeat constructor))).tail;clear hH2)|(refine S0T ?_;clear hH;rintro _ w hH)))|refine CT ?_|(refine DT ?_ ?_<;>intro hc<;>try (exfalso;omega))|(first|(refine DSK ?_;clear hA a;intro a hA)|(first|(refine DLT ?_;clear hA hH;rintro _ w ⟨oN,rfl,hH⟩;refine ⟨STT,?_⟩;intro a hA)|(refine DAT ?_;clear hA;rintro _ w ⟨oN,cN,rfl,hH2⟩;clear hH;have hH:=(hH2 _ (by (repeat constructor))).tail;clear hH2;refine ⟨STT,?_⟩;intro a hA))))
  (refine st_op hA rfl rfl (by decide) (op_call rfl rfl rfl (nan1_spec _ _)) ?_;clear hA;rintro _ w ⟨rfl,hk⟩ a hA;replace hH:=hH.keep hk;clear hk)
  repeat' (first|(first|(refine GT ?_ ?_<;>intro hg<;>clear hA a<;>intro a hA<;>(first|exact FA|replace hg:=dTr hg|replace hg:=dFa hg|skip))|(refine QT ?_;clear hA a;intro a hA)|(first|(refine BT ?_;clear hA hH;rintro _ w ⟨bN,rfl,hH⟩ a hA)|(refine LT ?_;clear hA hH;rintro _ w ⟨oN,rfl,hH⟩ a hA)|(refine AT ?_;clear hA;rintro _ w ⟨oN,cN,rfl,hH2⟩ a hA;clear hH;have hH:=(hH2 _ (by (repeat constructor))).tail;clear hH2)|(refine S0T ?_;clear hH;rintro _ w hH)))|refine CT ?_|(refine DT ?_ ?_<;>intro hc<;>try (exfalso;omega))|(first|(refine DSK ?_;clear hA a;intro a hA)|(first|(refine DLT ?_;clear hA hH;rintro _ w ⟨oN,rfl,hH⟩;refine ⟨STT,?_⟩;intro a hA)|(refine DAT ?_;clear hA;rintro _ w ⟨oN,cN,rfl,hH2⟩;clear hH;have hH:=(hH2 _ (by (repeat constructor))).tail;clear hH2;refine ⟨STT,?_⟩;intro a hA))))
  exact rt1 (.inl rfl) rfl hA rfl ⟨rfl,hH.kp⟩
theorem bin_spec (w0:World) (o:Option Addr) (c:Nat) (xs:List Int) (t:Int) (hR:Rd w0 o (flat Fw.encI xs)) (hl:xs.length≤1048576) (hs:xs.Pairwise (·< ·)) :
    Ret Tryz.prog 15 #[.slice o xs.length c,.int .i64 t] w0 (fun r w=>∃i:Nat,r= .tuple #[.int .i64 i,.bool (decide (t∈xs))]∧Kp w0 noM w):=by
  have hH:HS w0 noM [] w0:=HS.init w0 noM
  have hsp:Sp o xs.length:=hR.sp (sz:=1) (flat_length Fw.encI_len _) (by omega)
  (refine ENT (N:=54) Tryz.func15 Tryz.ntmps15 ?_;intro a hA)
  repeat' (first|(first|(refine GT ?_ ?_<;>intro hg<;>clear hA a<;>intro a hA<;>(first|exact FA|replace hg:=dTr hg|replace hg:=dFa hg|skip))|(refine QT ?_;clear hA a;intro a hA)|(first|(refine BT ?_;clear hA hH;rintro _ w ⟨bN,rfl,hH⟩ a hA)|(refine LT ?_;clear hA hH;rintro _ w ⟨oN,rfl,hH⟩ a hA)|(refine AT ?_;clear hA;rintro _ w ⟨oN,cN,rfl,hH2⟩ a hA;clear hH;have hH:=(hH2 _ (by (repeat constructor))).tail;clear hH2)|(refine S0T ?_;clear hH;rintro _ w hH)))|refine CT ?_|(refine DT ?_ ?_<;>intro hc<;>try (exfalso;omega))|(first|(refine DSK ?_;clear hA a;intro a hA)|(first|(refine DLT ?_;clear hA hH;rintro _ w ⟨oN,rfl,hH⟩;refine ⟨STT,?_⟩;intro a hA)|(refine DAT ?_;clear hA;rintro _ w ⟨oN,cN,rfl,hH2⟩;clear hH;have hH:=(hH2 _ (by (repeat constructor))).tail;clear hH2;refine ⟨STT,?_⟩;intro a hA))))
  refine wp_lpk (S:=Nat × Nat) (fun s a w=>Bs xs t s.1 s.2∧HS w0 noM [] w∧Sl 54 [(0,.slice o xs.length c),(1,.int .i64 t),(6,.int .i64 xs.length),(7,.int .i64 s.1),(8,.int .i64 s.2)] a) (fun s=>s.2 - s.1)
    (fun a w=>∃i,Bs xs t i i∧HS w0 noM [] w∧Sl 54 [(0,.slice o xs.length c),(1,.int .i64 t),(6,.int .i64 xs.length),(7,.int .i64 i)] a) (0,xs.length) ⟨⟨Nat.zero_le _,Nat.le_refl _,fun k x h=>by omega,fun k x h hx=>by have:=(List.getElem?_eq_some_iff.1 hx).1;omega⟩,hH,(hA.sub SBT)⟩ ?_ ?_
  · clear hA hH
    rintro ⟨i,j⟩ a w ⟨hb,hH,hA⟩
    have hb1:=hb.ij
    have hb2:=hb.jn
    dsimp only at hb1 hb2 hA hb
    by_cases hij:i<j
    rotate_left
    · obtain rfl:i=j:=by omega
      repeat' (first|(first|(refine GT ?_ ?_<;>intro hg<;>clear hA a<;>intro a hA<;>(first|exact FA|replace hg:=dTr hg|replace hg:=dFa hg|skip))|(refine QT ?_;clear hA a;intro a hA)|(first|(refine BT ?_;clear hA hH;rintro _ w ⟨bN,rfl,hH⟩ a hA)|(refine LT ?_;clear hA hH;rintro _ w ⟨oN,rfl,hH⟩ a hA)|(refine AT ?_;clear hA;rintro _ w ⟨oN,cN,rfl,hH2⟩ a hA;clear hH;have hH:=(hH2 _ (by (repeat constructor))).tail;clear hH2)|(refine S0T ?_;clear hH;rintro _ w hH)))|refine CT ?_|(refine DT ?_ ?_<;>intro hc<;>try (exfalso;omega))|(first|(refine DSK ?_;clear hA a;intro a hA)|(first|(refine DLT ?_;clear hA hH;rintro _ w ⟨oN,rfl,hH⟩;refine ⟨STT,?_⟩;intro a hA)|(refine DAT ?_;clear hA;rintro _ w ⟨oN,cN,rfl,hH2⟩;clear hH;have hH:=(hH2 _ (by (repeat constructor))).tail;clear hH2;refine ⟨STT,?_⟩;intro a hA))))
      exact ⟨i,hb,hH,(hA.sub SBT)⟩
    obtain ⟨h,hh⟩:∃h,h=(i+j) / 2:=⟨_,rfl⟩
    have hh1:i≤h:=by omega
    have hh2:h<j:=by omega
    obtain ⟨x,hx⟩:∃x,xs[h]?=some x:=⟨_,List.getElem?_eq_getElem (by omega)⟩
    have hv:(flat Fw.encI xs)[h*1]?=some (.int .i64 x):=flat_get (off:=0) Fw.encI_len hx rfl
    have hsh:=half_shr i j
    rw [←hh] at hsh
    repeat' (first|(first|(refine GT ?_ ?_<;>intro hg<;>clear hA a<;>intro a hA<;>(first|exact FA|replace hg:=dTr hg|replace hg:=dFa hg|skip))|(refine XT ?_;apply XE;(first|(apply ex_conv;rfl;apply wrap_u<;>omega)|(apply ex_conv;rfl;apply wrap_i<;>omega)|(apply ex_shr;rfl;rfl;omega;exact hsh)|(apply ex_load;rfl;exact cl_rd hR id hv));clear hA a;intro a hA)|(refine QT ?_;clear hA a;intro a hA)|(first|(refine BT ?_;clear hA hH;rintro _ w ⟨bN,rfl,hH⟩ a hA)|(refine LT ?_;clear hA hH;rintro _ w ⟨oN,rfl,hH⟩ a hA)|(refine AT ?_;clear hA;rintro _ w ⟨oN,cN,rfl,hH2⟩ a hA;clear hH;have hH:=(hH2 _ (by (repeat constructor))).tail;clear hH2)|(refine S0T ?_;clear hH;rintro _ w hH)))|refine CT ?_|(refine DT ?_ ?_<;>intro hc<;>try (exfalso;omega))|(first|(refine DSK ?_;clear hA a;intro a hA)|(first|(refine DLT ?_;clear hA hH;rintro _ w ⟨oN,rfl,hH⟩;refine ⟨STT,?_⟩;intro a hA)|(refine DAT ?_;clear hA;rintro _ w ⟨oN,cN,rfl,hH2⟩;clear hH;have hH:=(hH2 _ (by (repeat constructor))).tail;clear hH2;refine ⟨STT,?_⟩;intro a hA))))
    (refine st_op hA rfl rfl (by decide) (op_call rfl rfl rfl (less_spec _ _ _)) ?_;clear hA;rintro _ w ⟨rfl,hk⟩ a hA;replace hH:=hH.keep hk;clear hk)
    repeat' (first|(first|(refine GT ?_ ?_<;>intro hg<;>clear hA a<;>intro a hA<;>(first|exact FA|replace hg:=dTr hg|replace hg:=dFa hg|skip))|(refine QT ?_;clear hA a;intro a hA)|(first|(refine BT ?_;clear hA hH;rintro _ w ⟨bN,rfl,hH⟩ a hA)|(refine LT ?_;clear hA hH;rintro _ w ⟨oN,rfl,hH⟩ a hA)|(refine AT ?_;clear hA;rintro _ w ⟨oN,cN,rfl,hH2⟩ a hA;clear hH;have hH:=(hH2 _ (by (repeat constructor))).tail;clear hH2)|(refine S0T ?_;clear hH;rintro _ w hH)))|refine CT ?_|(refine DT ?_ ?_<;>intro hc<;>try (exfalso;omega))|(first|(refine DSK ?_;clear hA a;intro a hA)|(first|(refine DLT ?_;clear hA hH;rintro _ w ⟨oN,rfl,hH⟩;refine ⟨STT,?_⟩;intro a hA)|(refine DAT ?_;clear hA;rintro _ w ⟨oN,cN,rfl,hH2⟩;clear hH;have hH:=(hH2 _ (by (repeat constructor))).tail;clear hH2;refine ⟨STT,?_⟩;intro a hA))))
    · exact ⟨(h+1,j),⟨hb.right hs hh1 hh2 hx hc,hH,(hA.sub SBT)⟩,by show j - (h+1)<j - i;omega⟩
    · exact ⟨(i,h),⟨hb.left hs hh1 hh2 hx hc,hH,(hA.sub SBT)⟩,by show h - i<j - i;omega⟩
  clear hA hH
  rintro a w ⟨i,hb,hH,hA⟩
  have hfd:=hb.found hs
  by_cases hi:i<xs.length
  · obtain ⟨x,hx⟩:∃x,xs[i]?=some x:=⟨_,List.getElem?_eq_getElem hi⟩
    have hv:(flat Fw.encI xs)[i*1]?=some (.int .i64 x):=flat_get (off:=0) Fw.encI_len hx rfl
    rw [hx,Option.some.injEq] at hfd
    repeat' (first|(first|(refine GT ?_ ?_<;>intro hg<;>clear hA a<;>intro a hA<;>(first|exact FA|replace hg:=dTr hg|replace hg:=dFa hg|skip))|(refine XT ?_;apply XE;(first|(apply ex_load;rfl;exact cl_rd hR id hv));clear hA a;intro a hA)|(refine QT ?_;clear hA a;intro a hA)|(first|(refine BT ?_;clear hA hH;rintro _ w ⟨bN,rfl,hH⟩ a hA)|(refine LT ?_;clear hA hH;rintro _ w ⟨oN,rfl,hH⟩ a hA)|(refine AT ?_;clear hA;rintro _ w ⟨oN,cN,rfl,hH2⟩ a hA;clear hH;have hH:=(hH2 _ (by (repeat constructor))).tail;clear hH2)|(refine S0T ?_;clear hH;rintro _ w hH)))|refine CT ?_|(refine DT ?_ ?_<;>intro hc<;>try (exfalso;omega))|(first|(refine DSK ?_;clear hA a;intro a hA)|(first|(refine DLT ?_;clear hA hH;rintro _ w ⟨oN,rfl,hH⟩;refine ⟨STT,?_⟩;intro a hA)|(refine DAT ?_;clear hA;rintro _ w ⟨oN,cN,rfl,hH2⟩;clear hH;have hH:=(hH2 _ (by (repeat constructor))).tail;clear hH2;refine ⟨STT,?_⟩;intro a hA))))
    · exact rt2 (.inl rfl) rfl hA rfl rfl ⟨i,by rw [decide_eq_true (hfd.2 hg)],hH.kp⟩
    have hne:=hg
    (refine st_op hA rfl rfl (by decide) (op_call rfl rfl rfl (nan2_spec _ _)) ?_;clear hA;rintro _ w ⟨rfl,hk⟩ a hA;replace hH:=hH.keep hk;clear hk)
    repeat' (first|(first|(refine GT ?_ ?_<;>intro hg<;>clear hA a<;>intro a hA<;>(first|exact FA|replace hg:=dTr hg|replace hg:=dFa hg|skip))|(refine QT ?_;clear hA a;intro a hA)|(first|(refine BT ?_;clear hA hH;rintro _ w ⟨bN,rfl,hH⟩ a hA)|(refine LT ?_;clear hA hH;rintro _ w ⟨oN,rfl,hH⟩ a hA)|(refine AT ?_;clear hA;rintro _ w ⟨oN,cN,rfl,hH2⟩ a hA;clear hH;have hH:=(hH2 _ (by (repeat constructor))).tail;clear hH2)|(refine S0T ?_;clear hH;rintro _ w hH)))|refine CT ?_|(refine DT ?_ ?_<;>intro hc<;>try (exfalso;omega))|(first|(refine DSK ?_;clear hA a;intro a hA)|(first|(refine DLT ?_;clear hA hH;rintro _ w ⟨oN,rfl,hH⟩;refine ⟨STT,?_⟩;intro a hA)|(refine DAT ?_;clear hA;rintro _ w ⟨oN,cN,rfl,hH2⟩;clear hH;have hH:=(hH2 _ (by (repeat constructor))).tail;clear hH2;refine ⟨STT,?_⟩;intro a hA))))
    exact rt2 (.inl rfl) rfl hA rfl rfl ⟨i,by rw [decide_eq_false (fun h=>hne (hfd.1 h))],hH.kp⟩
  · have:xs[i]?=none:=List.getElem?_eq_none (by omega)
    rw [this] at hfd
    repeat' (first|(first|(refine GT ?_ ?_<;>intro hg<;>clear hA a<;>intro a hA<;>(first|exact FA|replace hg:=dTr hg|replace hg:=dFa hg|skip))|(refine QT ?_;clear hA a;intro a hA)|(first|(refine BT ?_;clear hA hH;rintro _ w ⟨bN,rfl,hH⟩ a hA)|(refine LT ?_;clear hA hH;rintro _ w ⟨oN,rfl,hH⟩ a hA)|(refine AT ?_;clear hA;rintro _ w ⟨oN,cN,rfl,hH2⟩ a hA;clear hH;have hH:=(hH2 _ (by (repeat constructor))).tail;clear hH2)|(refine S0T ?_;clear hH;rintro _ w hH)))|refine CT ?_|(refine DT ?_ ?_<;>intro hc<;>try (exfalso;omega))|(first|(refine DSK ?_;clear hA a;intro a hA)|(first|(refine DLT ?_;clear hA hH;rintro _ w ⟨oN,rfl,hH⟩;refine ⟨STT,?_⟩;intro a hA)|(refine DAT ?_;clear hA;rintro _ w ⟨oN,cN,rfl,hH2⟩;clear hH;have hH:=(hH2 _ (by (repeat constructor))).tail;clear hH2;refine ⟨STT,?_⟩;intro a hA))))
    exact rt2 (.inl rfl) rfl hA rfl rfl ⟨i,by rw [decide_eq_false (fun h=>by cases hfd.1 h)],hH.kp⟩
end
end Go.Proofs.YtbapejgbjpcadaaGreatDoor
