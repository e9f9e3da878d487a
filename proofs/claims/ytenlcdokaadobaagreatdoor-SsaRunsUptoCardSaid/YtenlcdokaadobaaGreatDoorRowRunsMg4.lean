/-
  anf.May's check, at a body that returns a number, exactly. Conditions: none.
  anf.May at functions that return a number: exactly. Conditions: none.
  Graphs that may be: what ssa.May's loop over blocks keeps, exactly. Conditions: none.
  ssa.May: exactly. Conditions: none.
  slices.BinarySearch of numbers. Conditions: none.
  What steps do with texts. Conditions: none.
  The walk over slices.Insert of one number. Conditions: none.
  The walk over slices.Insert of one value. Conditions: none.
  slices.Clone, slices.Repeat of one value. Conditions: none.
-/
import Derived.Test.YtenlcdokaadobaaGreatDoorRowRunsMg3
set_option maxHeartbeats 64000000
set_option maxRecDepth 10000
namespace Go.Proofs.YtenlcdokaadobaaGreatDoor
open Go Go.Fw
set_option linter.unusedVariables false
def encB (o:Option Addr):List Value:=[.int .i64 2,.int .i64 0,.slice none 0 0,.int .i64 0,.slice none 0 0,.int .i64 0,.int .i64 0,.slice none 0 0,.slice none 0 0,.slice o 1 1,.slice none 0 0]
def at0:Atm:=⟨2,0⟩
structure Kk where
  oP:Option Addr
  nP:Nat
  cP:Nat
  g:Grs
  oA:Option Addr
  nA:Nat
  cA:Nat
  caps:Int
  e:Option Nat
  n:Option Nat
  j:Option Nat
  o:Option Nat
def wF (c:Kk) (p:Int):List Value:=[.slice c.oP c.nP c.cP,.slice c.g.ls.o c.g.ls.l.length c.g.ls.c,.slice c.g.ts.o c.g.ts.l.length c.g.ts.c,.slice c.g.xs.o c.g.xs.l.length c.g.xs.c,.slice c.g.ss.o c.g.ss.l.length c.g.ss.c,
  .slice c.oA c.nA c.cA,.int .i64 p,.int .i64 c.caps,.map c.e,.map c.n,.map c.j,.map c.o]
section
attribute [local irreducible] Code.wp wpList Calls Ex Op1 sat bat blk cb own Go.Fw.mp Go.Fw.mpO Go.Fw.mpI Go.Fw.mpE Go.Fw.itr HS Rd Ret wkD Hp Cl Cls Exit.then Exit.inBlock Exit.noGoto bodyPost Go.Fw.flat wk2 Go.Fw.all Go.Fw.owns wpOp
attribute [local irreducible] sk mpK sko mvO xM geS

theorem eU (w0:World) (f:Value):Ret Tryz.prog 113 #[.slice none 0 0,f] w0 (fun r w=>r= .int .i64 (-1)∧Kp w0 noM w):=by
  have hH:HS w0 noM [] w0:=HS.init w0 noM
  (refine ENT (N:=19) Tryz.func113 Tryz.ntmps113 ?_;intro a hA)
  repeat' (first|(refine QT ?_;clear hA a;intro a hA)|refine CT ?_|fail)
  refine zU (S:=Nat) (fun i a w=>i=0∧HS w0 noM [] w∧Sl 19 [(8,.int .i64 0),(7,.int .i64 0)] a) (fun i=>i) (fun a w=>HS w0 noM [] w∧Sl 19 [] a) 0 ⟨rfl,hH,(hA.sub SBT)⟩ ?_ ?_
  · clear hA hH
    rintro i a w ⟨hi,hH,hA⟩
    repeat' (first|(refine QT ?_;clear hA a;intro a hA)|refine CT ?_|fail)
    exact ⟨hH,(hA.sub SBT)⟩
  clear hA hH
  rintro a w ⟨hH,hA⟩
  repeat' (first|(refine QT ?_;clear hA a;intro a hA)|refine CT ?_|fail)
  exact rt1 (.inl rfl) rfl hA rfl ⟨rfl,hH.kp⟩
theorem rS (w0:World) (f:Value):Ret Tryz.prog 84 #[.slice none 0 0,f] w0 (fun r w=>r= .bool false∧Kp w0 noM w):=by
  have hH:HS w0 noM [] w0:=HS.init w0 noM
  (refine ENT (N:=9) Tryz.func84 Tryz.ntmps84 ?_;intro a hA)
  repeat' (first|(refine QT ?_;clear hA a;intro a hA)|refine CT ?_|fail)
  (refine zJ hA rfl rfl (by decide) (zE rfl rfl rfl (eU _ f)) ?_;clear hA;rintro _ w ⟨rfl,hk⟩ a hA;replace hH:=hH.keep hk;clear hk)
  repeat' (first|(refine QT ?_;clear hA a;intro a hA)|refine CT ?_|fail)
  exact rt1 (.inl rfl) rfl hA rfl ⟨rfl,hH.kp⟩
def shp2:List Value:=[.bool false,.bool false,.bool false,.bool false,.bool false,.int .i64 1,.int .i64 0]
theorem lJ (w0:World):Ret Tryz.prog 78 #[.int .i64 2] w0 (fun r w=>r= .tuple #[.agg shp2.toArray,.bool true]∧Kp w0 noM w):=by
  have hH:HS w0 noM [] w0:=HS.init w0 noM
  (refine ENT (N:=28) Tryz.func78 Tryz.ntmps78 ?_;intro a hA)
  repeat' (first|(refine XT ?_;apply XE;(first|(apply zK (cs:=shp2.toArray);rfl;exact FLT;rfl));clear hA a;intro a hA)|(refine QT ?_;clear hA a;intro a hA)|(refine BT ?_;clear hA hH;rintro _ w ⟨bN,rfl,hH⟩ a hA)|(refine SAT (shp2) hA hH ?_;clear hH;intro w hH)|refine CT ?_|fail)
  exact wB (vs:=shp2) (.inl rfl) rfl hA rfl rfl rfl hH (zD (by exact MEMT)) ⟨rfl,hH.kp⟩
theorem atomsA_spec (w0 w:World) (H:List It) (c:Kk) (bK:Nat) (p:Int) (o:Option Addr) (hH:HS w0 noM (cb bK 127 (wF c (p))::H) w) (hr:Rd w0 o (zV at0)) (hp0:0≤p) (hp1:p≤60001) :
    Ret Tryz.prog 79 #[.pointer (some (bat bK 0)),.slice o 1 1] w (fun r w'=>r= .bool true∧HS w0 noM (cb bK 127 (wF c (p+1))::H) w'):=by
  have hsp:Sp o 1:=hr.sp (sz:=2) rfl (by omega)
  (refine ENT (N:=78) Tryz.func79 Tryz.ntmps79 ?_;intro a hA)
  repeat' (first|(refine QT ?_;clear hA a;intro a hA)|refine CT ?_|fail)
  refine zU (S:=Nat) (fun i a w=>i≤1∧HS w0 noM (cb bK 127 (wF c (p+(i:Int)))::H) w∧Sl 78 [(10,.int .i64 i),(9,.int .i64 (1:Nat)),(8,.slice o 1 1),(0,.pointer (some (bat bK 0)))] a) (fun i=>1 - i)
    (fun a w=>HS w0 noM (cb bK 127 (wF c (p+1))::H) w∧Sl 78 [] a) 0 ⟨by omega,(by rw [show p+((0:Nat):Int)=p by omega];exact hH),(hA.sub SBT)⟩ ?_ ?_
  · clear hA hH
    rintro i a w ⟨hi,hH,hA⟩
    by_cases hlt:i<1
    rotate_left
    · obtain rfl:i=1:=by omega
      repeat' (first|(refine QT ?_;clear hA a;intro a hA)|refine CT ?_|fail)
      exact ⟨hH,(hA.sub SBT)⟩
    obtain rfl:i=0:=by omega
    rw [show p+((0:Nat):Int)=p by omega] at hH
    repeat' (first|(refine GT ?_ ?_<;>intro hg<;>clear hA a<;>intro a hA<;>(first|exact FA|replace hg:=dTr hg|replace hg:=dFa hg|skip))|(refine XT ?_;apply XE;(first|(apply zA (vs:=zV at0);rfl;rfl;exact yP hr id (fun i v h=>(by rw [Nat.zero_mul,Nat.zero_add];exact h)))|(apply zB;rfl;rfl;omega;exact hsp));clear hA a;intro a hA)|(refine QT ?_;clear hA a;intro a hA)|(refine BT ?_;clear hA hH;rintro _ w ⟨bN,rfl,hH⟩ a hA)|(refine SAT (zV at0) hA hH ?_;clear hH;intro w hH)|(apply zT hA rfl rfl;apply zG (cs':=wF c (p+1));rfl;rfl;rfl;exact hH;(repeat constructor);clear hH;rintro _ w hH)|refine CT ?_|(refine DT ?_ ?_<;>intro hc<;>try (exfalso;omega))|fail)
    all_goals first|exact ⟨1,⟨by omega,hH.tail,(hA.sub SBT)⟩,by omega⟩|(exfalso;have h1:=nd_t (by assumption);omega)|skip
  clear hA hH
  rintro a w ⟨hH,hA⟩
  repeat' (first|(refine QT ?_;clear hA a;intro a hA)|refine CT ?_|fail)
  exact rt1 (.inl rfl) rfl hA rfl ⟨rfl,hH⟩
theorem body_spec (w0 w:World) (H:List It) (c:Kk) (bK:Nat) (p:Int) (o:Option Addr) (hH:HS w0 noM (cb bK 127 (wF c (p))::H) w) (hr:Rd w0 o (zV at0)) (hp0:0≤p) (hp1:p≤60000) :
    Ret Tryz.prog 45 #[.pointer (some (bat bK 0)),.agg (encB o).toArray,.int .i64 1] w (fun r w'=>r= .bool true∧HS w0 noM (cb bK 127 (wF c (p+2))::H) w'):=by
  (refine ENT (N:=241) Tryz.func45 Tryz.ntmps45 ?_;intro a hA)
  repeat' (first|(refine QT ?_;clear hA a;intro a hA)|(refine BT ?_;clear hA hH;rintro _ w ⟨bN,rfl,hH⟩ a hA)|refine CT ?_|fail)
  (refine zJ hA rfl rfl (by decide) (zE rfl rfl rfl (lJ _)) ?_;clear hA;rintro _ w ⟨rfl,hk⟩ a hA;replace hH:=hH.keep hk;clear hk)
  repeat' (first|(refine GT ?_ ?_<;>intro hg<;>clear hA a<;>intro a hA<;>(first|exact FA|replace hg:=dTr hg|replace hg:=dFa hg|skip))|(refine QT ?_;clear hA a;intro a hA)|(refine BT ?_;clear hA hH;rintro _ w ⟨bN,rfl,hH⟩ a hA)|(refine SAT (shp2) hA hH ?_;clear hH;intro w hH)|(apply zT hA rfl rfl;apply zG (cs':=wF c (p+1));rfl;rfl;rfl;exact hH;(repeat constructor);clear hH;rintro _ w hH)|refine CT ?_|fail)
  replace hH:=hH.up 4 rfl
  dsimp only [List.eraseIdx_cons_succ,List.eraseIdx_cons_zero] at hH
  (refine zJ hA rfl rfl (by decide) (zE rfl rfl rfl (atomsA_spec w0 _ _ c bK (p+1) o hH hr (by omega) (by omega))) ?_;clear hA hH)
  rintro _ w ⟨rfl,hH⟩ a hA
  repeat' (first|(refine QT ?_;clear hA a;intro a hA)|refine CT ?_|fail)
  (refine zJ hA rfl rfl (by decide) (zE rfl rfl rfl (rS _ _)) ?_;clear hA;rintro _ w ⟨rfl,hk⟩ a hA;replace hH:=hH.keep hk;clear hk)
  repeat' (first|(refine QT ?_;clear hA a;intro a hA)|refine CT ?_|fail)
  rw [show p+1+1=p+2 by omega] at hH
  exact rt1 (.inl rfl) rfl hA rfl ⟨rfl,hH.rm 1 |>.rm 1 |>.rm 1 |>.rm 1⟩
end
end Go.Proofs.YtenlcdokaadobaaGreatDoor
namespace Go.Fw
open Go Go.RowKit
set_option linter.unusedVariables false
section
variable {P:Program} {N:Nat} {l:List (Nat × Value)} {C:World→Prop} {d:Option Tmp} {T:TypeId} {pos:String} {af:Array Edge} {g:Option (Nat × Bool)}
theorem kY {t kt e b:Nat} {kk:IntKind} {x y z:Operand} {ks:List Int} {k:Int} {w0 w:World} {M:Nat→Prop} {H H':List It} [ht:TMp P t kt e] [hk:TIn P kt kk]
    (hx:ev l x=some (.map (some b))) (hy:ev l y=some (.int .i64 k)) (hz:ev l z=some (.bool true)) (hH:HS w0 M H w) (hr:Rp H (sk b ks) (sk b (lU ks k)) H') :
    Op1 P N l ⟨d,.insert t x y z,T,pos,af,g⟩ w (fun _ w'=>HS w0 M H' w'):=by
  intro a hA K Q hK
  have h:=kH (P:=P) (N:=N) (d:=d) (T:=T) (pos:=pos) (af:=af) (g:=g) (t:=t) hx hy hz hH hr a hA K Q hK
  exact h
inductive SzL (P:Program):List (Nat × Nat)→List (Nat × Nat)→Prop
  |nil:SzL P [] []
  |cons {t o s:Nat} {fl szs:List (Nat × Nat)} (h:∃i,P.info? t=some i∧i.size=s) (k:SzL P fl szs):SzL P ((t,o)::fl) ((o,s)::szs)
theorem xS {fl szs:List (Nat × Nat)} (h:SzL P fl szs) (w:World):(fl.mapM (fun p=>do pure (p.2,←sizeOf p.1)):Sem (List (Nat × Nat))).run P w= .ok szs w:=by
  induction h with
  |nil=>simp
  | @cons t o s fl szs h k ih=>
    obtain ⟨i,h1,h2⟩:=h
    rw [List.mapM_cons]
    have e1:(sizeOf t:Sem Nat).run P w= .ok s w:=by
      simp [sizeOf,typeInfo,h1,h2]
    simp only [Sem.run_bind,e1,Result.andThen_ok,Sem.run_pure,ih]
end
end Go.Fw
namespace Go.Proofs.YtenlcdokaadobaaGreatDoor
open Go Go.Fw
set_option linter.unusedVariables false
def xR (o:Option Addr) (c:Int):List Value:=.int .i64 c::encB o
theorem tY (o:Option Addr) (c:Int):(xR o c).length=12:=rfl
theorem pL {b:Bool} {p:Prop} (h:b=true↔p) (hn:(!b)=true):¬p:=fun hp=>by rw [h.2 hp] at hn;cases hn
theorem sO {b:Bool} {p:Prop} (h:b=true↔p) (hn:(!b)=false):p:=h.1 (by cases b with|true=>rfl|false=>cases hn)
theorem wD {cs:List Int} {g:Grs} (h:¬AnfP cs g):false=true↔AnfP cs g:=⟨fun e=>(by cases e),fun e=>absurd e h⟩
def four:List ByteArray:=[uX,pW,exnM,rX]
theorem has4 {cs:List Int} {g:Grs} (h:AnfP cs g):∀s∈four,tX g.xs.l s:=fun s hs=>by
  simp only [four,List.mem_cons,List.not_mem_nil,or_false] at hs
  obtain ⟨h1,h2,h3,h4⟩:=h.has
  rcases hs with rfl|rfl|rfl|rfl<;>assumption
theorem eV {l:List ByteArray} (h:∀k,k<four.length→tX l (four.getD k default)):tX l uX∧tX l pW∧tX l exnM∧tX l rX:=⟨h 0 (by decide),h 1 (by decide),h 2 (by decide),h 3 (by decide)⟩
theorem fQ {l:List Int} {i:Nat} {x:Int} (hx:l[i]?=some x) (h:∀c∈l.take i,0≤c∧c≤4096) (ha:0≤x∧x≤4096):∀c∈l.take (i+1),0≤c∧c≤4096:=by
  rw [yK hx]
  intro c hc
  rcases List.mem_append.1 hc with h1|h1
  · exact h c h1
  · rw [List.mem_singleton] at h1
    exact h1▸ha
theorem xP {α:Type} {l:List α} {k:Nat} {d:α} (h:k<l.length):l.getD k d∈l:=by
  rw [List.getD_eq_getElem?_getD,List.getElem?_eq_getElem h]
  exact List.getElem_mem h
theorem own4 {w0 w:World} {H:List It} {T:Nat} {o:Option Addr} {a b c d:ByteArray} (h:HS w0 noM (own T 1 o 4 4 [.string a,.string b,.string c,.string d]::H) w):∃sl:List ByteArray,sl=[a,b,c,d]∧sl.length=4∧HS w0 noM (own T 1 o sl.length sl.length (flat yQ sl)::H) w:=⟨[a,b,c,d],rfl,rfl,h⟩
def kk0 (o:Option Addr) (n c:Nat) (g:Grs):Kk:=⟨o,n,c,g,none,0,0,0,none,none,none,none⟩
theorem cap_at {o:Option Addr} {l:List Int} {k:Nat} (h:k<l.length):(flat (xR o) l)[k*12+0]?=some (.int .i64 (l.getD k 0)):=by
  refine yL (off:=0) (tY o) (List.getElem?_eq_getElem h) ?_
  rw [List.getD_eq_getElem?_getD,List.getElem?_eq_getElem h]
  rfl
theorem uJ (l:List Int) (x:Int):flat Fw.encI l++[.int .i64 x]=flat Fw.encI (l++[x]):=by rw [vQ];rfl
theorem sub_bd (o:Option Addr) (c:Int) (i:Nat) (v:Value) (h:(encB o)[i]?=some v):(xR o c)[0+1+i]?=some v:=by rw [Nat.zero_add,Nat.add_comm];exact h
section
attribute [local irreducible] Code.wp wpList Calls Ex Op1 sat bat blk cb own Go.Fw.mp Go.Fw.mpO Go.Fw.mpI Go.Fw.mpE Go.Fw.itr HS Rd Ret wkD Hp Cl Cls Exit.then Exit.inBlock Exit.noGoto bodyPost Go.Fw.flat wk2 Go.Fw.all Go.Fw.owns wpOp
attribute [local irreducible] sk mpK sko mvO xM geS

theorem anfMay_spec (w0:World) (oF:Option Addr) (cF:Nat) (cs:List Int) (o:Option Addr) (g:Grs) (hF:Rd w0 oF (flat (xR o) cs)) (hr:Rd w0 o (zV at0)) (hcl:cs.length≤100000) (hls:RdV w0 yQ g.ls) (hts:RdV w0 yQ g.ts) (hxs:RdV w0 yQ g.xs) (hss:RdV w0 yQ g.ss) :
    Ret Tryz.prog 18 #[.agg (xF oF cs.length cF g).toArray] w0 (fun v w=>∃b,v= .bool b∧(b=true↔AnfP cs g)∧Kp w0 noM w):=by
  have hH:HS w0 noM [] w0:=HS.init w0 noM
  have hspF:Sp oF cs.length:=hF.sp (sz:=12) (zH (tY o) _) (by omega)
  (refine ENT (N:=126) Tryz.func18 Tryz.ntmps18 ?_;intro a hA)
  repeat' (first|(refine GT ?_ ?_<;>intro hg<;>clear hA a<;>intro a hA<;>(first|exact FA|replace hg:=dTr hg|replace hg:=dFa hg|skip))|(refine XT ?_;apply XE;(first|(apply zF;rfl;refine yG hF id (cap_at ?_);(show 0< _);omega));clear hA a;intro a hA)|(refine QT ?_;clear hA a;intro a hA)|(refine BT ?_;clear hA hH;rintro _ w ⟨bN,rfl,hH⟩ a hA)|(refine LT ?_;clear hA hH;rintro _ w ⟨oN,rfl,hH⟩ a hA)|(refine zJ hA rfl rfl (by decide) (zE rfl rfl rfl (uR _ g.ls (hls.keep hH.kp))) ?_;clear hA;rintro _ w ⟨b,rfl,hb1,hk⟩ a hA;replace hH:=hH.keep hk;clear hk)|(refine zJ hA rfl rfl (by decide) (zE rfl rfl rfl (uR _ g.ts (hts.keep hH.kp))) ?_;clear hA;rintro _ w ⟨b,rfl,hb2,hk⟩ a hA;replace hH:=hH.keep hk;clear hk)|(refine zJ hA rfl rfl (by decide) (zE rfl rfl rfl (uR _ g.xs (hxs.keep hH.kp))) ?_;clear hA;rintro _ w ⟨b,rfl,hb3,hk⟩ a hA;replace hH:=hH.keep hk;clear hk)|refine CT ?_|(refine DT ?_ ?_<;>intro hc<;>try (exfalso;omega))|fail)
  · exact rt1 (.inl rfl) rfl hA rfl ⟨_,rfl,wD (fun h=>(by have:=h.pos;omega)),hH.kp⟩
  · exact rt1 (.inl rfl) rfl hA rfl ⟨_,rfl,wD (fun h=>(by have:=h.top;omega)),hH.kp⟩
  · exact rt1 (.inl rfl) rfl hA rfl ⟨_,rfl,wD (fun h=>(by assumption:cs.getD (Int.toNat 0) 0≠0) h.c0),hH.kp⟩
  · exact rt1 (.inl rfl) rfl hA rfl ⟨_,rfl,wD (fun h=>pL hb1 (by assumption) h.ls),hH.kp⟩
  · exact rt1 (.inl rfl) rfl hA rfl ⟨_,rfl,wD (fun h=>pL hb2 (by assumption) h.ts),hH.kp⟩
  · exact rt1 (.inl rfl) rfl hA rfl ⟨_,rfl,wD (fun h=>pL hb3 (by assumption) h.xs),hH.kp⟩
  have hp1:=sO hb1 (by assumption)
  have hp2:=sO hb2 (by assumption)
  have hp3:=sO hb3 (by assumption)
  have hc0:cs.getD 0 0=0:=Decidable.not_not.1 (by assumption:¬cs.getD (Int.toNat 0) 0≠0)
  clear hb1 hb2 hb3
  obtain ⟨b1,hb1⟩:∃x,x=bN:=⟨_,rfl⟩
  rw [←hb1] at hA hH
  clear hb1 bN
  have hcl2:1≤cs.length:=by omega
  have hcl4:cs.length≤4096:=by omega
  obtain ⟨sl,hsl0,hsl,hH1⟩:=own4 hH
  have hsl4:sl=four:=hsl0.trans rfl
  clear hsl0
  clear hH
  have hH:=hH1
  clear hH1
  have hA2:Sl 126 [(48,.int .i64 (0:Nat)),(47,.int .i64 sl.length),(46,.slice oN sl.length sl.length),(1,.pointer (some (bat b1 0)))] a:=by rw [hsl];exact (hA.sub SBT)
  clear hA
  have hspS:=hH.own_sp (T:=9) (o:=oN) (.head _)
  refine zU (S:=Nat) (fun i a w=>(i≤sl.length∧∀k,k<i→tX g.xs.l (sl.getD k default))∧HS w0 noM [own 9 1 oN sl.length sl.length (flat yQ sl),cb b1 34 (xF oF cs.length cF g)] w∧Sl 126 [(48,.int .i64 i),(47,.int .i64 sl.length),(46,.slice oN sl.length sl.length),(1,.pointer (some (bat b1 0)))] a) (fun i=>sl.length - i)
    (fun a w=>(∀k,k<sl.length→tX g.xs.l (sl.getD k default))∧HS w0 noM [cb b1 34 (xF oF cs.length cF g)] w∧Sl 126 [(1,.pointer (some (bat b1 0)))] a) 0 ⟨⟨Nat.zero_le _,fun k h=>absurd h (Nat.not_lt_zero _)⟩,hH,hA2⟩ ?_ ?_
  · clear hA2 hH
    rintro i a w ⟨⟨hi,hhas⟩,hH,hA⟩
    by_cases hlt:i<sl.length
    rotate_left
    · obtain rfl:i=sl.length:=by omega
      repeat' (first|(refine QT ?_;clear hA a;intro a hA)|refine CT ?_|(refine DT ?_ ?_<;>intro hc<;>try (exfalso;omega))|fail)
      exact ⟨hhas,hH.tail,(hA.sub SBT)⟩
    have hv:=vD hlt
    repeat' (first|(refine XT ?_;apply XE;(first|(apply zB;rfl;rfl;omega;exact hspS)|(apply zF;rfl;apply xJ (T:=9);exact MEMT;exact hv));clear hA a;intro a hA)|(refine QT ?_;clear hA a;intro a hA)|refine CT ?_|(refine DT ?_ ?_<;>intro hc<;>try (exfalso;omega))|fail)
    (refine zJ hA rfl rfl (by decide) (zE rfl rfl rfl (qV _ g.xs _ (hxs.keep hH.kp))) ?_;clear hA;rintro _ w ⟨rfl,hk⟩ a hA;replace hH:=hH.keep hk;clear hk)
    repeat' (first|(refine QT ?_;clear hA a;intro a hA)|refine CT ?_|(refine DT ?_ ?_<;>intro hc<;>try (exfalso;omega))|fail)
    all_goals first|exact ⟨i+1,⟨⟨hlt,wH (p:=fun k=>tX g.xs.l (sl.getD k default)) hhas (by assumption)⟩,hH,(hA.sub SBT)⟩,by omega⟩|exact rt1 (.inl rfl) rfl hA rfl ⟨_,rfl,wD (fun h=>(by assumption:¬0≤xC g.xs.l (sl.getD i default)) (has4 h _ (hsl4▸xP hlt))),hH.kp⟩
  clear hA2 hH
  rintro a w ⟨hhas,hH,hA⟩
  rw [hsl4] at hhas
  have hx4:=eV hhas
  clear hhas hsl hsl4 hspS
  repeat' (first|(refine QT ?_;clear hA a;intro a hA)|refine CT ?_|fail)
  (refine zJ hA rfl rfl (by decide) (zE rfl rfl rfl (rR _ g.ss (hss.keep hH.kp))) ?_;clear hA;rintro _ w ⟨b,rfl,hbs,hk⟩ a hA;replace hH:=hH.keep hk;clear hk)
  repeat' (first|(refine XT ?_;apply XE;(first|(apply yZ (szs:=[(0,5),(5,1),(6,1),(7,1),(8,1),(9,1),(10,1),(11,1)]) (cs:=(wF (kk0 oF cs.length cF g) 0).toArray);exact xS (by (repeat (first|exact SzL.nil|refine SzL.cons ⟨_,rfl,by decide⟩ ?_)));rfl;rfl));clear hA a;intro a hA)|(refine QT ?_;clear hA a;intro a hA)|(refine BT ?_;clear hA hH;rintro _ w ⟨bN,rfl,hH⟩ a hA)|refine CT ?_|(refine DT ?_ ?_<;>intro hc<;>try (exfalso;omega))|fail)
  · exact rt1 (.inl rfl) rfl hA rfl ⟨_,rfl,wD (fun h=>hbs.1 (by assumption) h.ss),hH.kp⟩
  have hss4:∀s∈g.ss.l,s.size≤4096:=Classical.not_not.1 fun h=>absurd ((by assumption:b=false).symm.trans (hbs.2 h)) (by decide)
  clear hbs
  obtain ⟨bK,hbK⟩:∃x,x=bN:=⟨_,rfl⟩
  rw [←hbK] at hA hH
  clear hbK bN
  refine zU (S:=Nat) (fun i a w=>∃oA cA,i≤cs.length∧HS w0 noM [cb bK 127 (wF ⟨oF,cs.length,cF,g,oA,i,cA,0,none,none,none,none⟩ 0),own 3 1 oA i cA (flat Fw.encI (cs.take i)),cb b1 34 (xF oF cs.length cF g)] w∧Sl 126 [(67,.int .i64 i),(66,.int .i64 cs.length),(65,.slice oF cs.length cF),(5,.pointer (some (bat bK 0))),(1,.pointer (some (bat b1 0)))] a) (fun i=>cs.length - i)
    (fun a w=>∃oA nA cA,HS w0 noM [cb bK 127 (wF ⟨oF,cs.length,cF,g,oA,nA,cA,0,none,none,none,none⟩ 0),cb b1 34 (xF oF cs.length cF g)] w∧Sl 126 [(5,.pointer (some (bat bK 0))),(1,.pointer (some (bat b1 0)))] a) 0 ⟨none,0,Nat.zero_le _,(by rw [List.take_zero];exact (hH.nil_flat Fw.encI 3 1).perm PMT),(hA.sub SBT)⟩ ?_ ?_
  · clear hA hH
    rintro i a w ⟨oA,cA,hi,hH,hA⟩
    by_cases hlt:i<cs.length
    rotate_left
    · repeat' (first|(refine QT ?_;clear hA a;intro a hA)|refine CT ?_|(refine DT ?_ ?_<;>intro hc<;>try (exfalso;omega))|fail)
      exact ⟨oA,i,cA,hH.rm 1,(hA.sub SBT)⟩
    obtain ⟨x,hx⟩:∃x,cs[i]?=some x:=⟨_,List.getElem?_eq_getElem hlt⟩
    have hvx:=yI (tY o) hx
    repeat' (first|(refine XT ?_;apply XE;(first|(apply zA (vs:=xR o x);rfl;rfl;exact yP hF id hvx)|(apply zB;rfl;rfl;omega;exact hspF));clear hA a;intro a hA)|(refine QT ?_;clear hA a;intro a hA)|(refine BT ?_;clear hA hH;rintro _ w ⟨bN,rfl,hH⟩ a hA)|(refine SAT (xR o x) hA hH ?_;clear hH;intro w hH)|refine CT ?_|(refine DT ?_ ?_<;>intro hc<;>try (exfalso;omega))|fail)
    have hST:HS w0 noM [cb bN 72 (xR o x),cb bK 127 (wF ⟨oF,cs.length,cF,g,oA,i,cA,0,none,none,none,none⟩ 0)] w:=HS.left (H1:=[_,_]) hH
    (refine zN (H:=[_,_]) [(0,1),(1,1),(2,1),(3,1),(4,1),(5,1),(6,1),(7,0),(8,0),(9,1),(10,1)] [11] mixed (by decide +kernel) (hST) ?_;replace hH:=hH.drew)
    clear hST
    repeat' (first|(refine QT ?_;clear hA a;intro a hA)|(refine DLT ?_;clear hA hH;rintro _ w ⟨oN,rfl,hH⟩;refine ⟨STT,?_⟩;intro a hA)|fail)
    (apply yC hA rfl rfl rfl (by decide);apply zQ;rfl;rfl;exact CATST;rfl;rfl;rfl;exact hH;clear hA hH;rintro _ w ⟨oN,rfl,hH⟩;refine ⟨HS.left (H1:=[_,_]) hH.tail,?_⟩;intro a hA)
    dsimp only at hA
    (apply yC hA rfl rfl rfl (by decide);apply yE;rfl;rfl;exact hH;exact MEMT;exact (hH.own_rd (List.Mem.head _));exact rfl;rfl;decide;exact rfl;(unfold maxLen;omega);omega;clear hA;rintro _ w ⟨oN,cN,rfl,hH2⟩;clear hH;have hH:=hH2 _ (by (repeat constructor));clear hH2;refine ⟨HS.left (H1:=[_,_]) hH.tail,?_⟩;intro a hA)
    rw [uJ,←yK hx] at hH
    repeat' (first|(refine QT ?_;clear hA a;intro a hA)|refine CT ?_|fail)
    (apply yB hA rfl rfl rfl;apply zG (cs':=wF ⟨oF,cs.length,cF,g,oN,i+1,cN,0,none,none,none,none⟩ 0);rfl;rfl;rfl;exact hH;(repeat constructor);clear hH;rintro _ w hH)
    repeat' (first|(refine QT ?_;clear hA a;intro a hA)|refine CT ?_|fail)
    exact ⟨i+1,⟨oN,cN,hlt,(((hH.rm 0).rm 0).perm PMT),(hA.sub SBT)⟩,by omega⟩
  clear hA hH
  rintro a w ⟨oA,nA,cA,hH,hA⟩
  repeat' (first|(refine QT ?_;clear hA a;intro a hA)|refine CT ?_|fail)
  refine zU (S:=Nat) (fun i a w=>∃c p,(i≤cs.length∧0≤p∧p≤2* (i:Int)∧∀c∈cs.take i,0≤c∧c≤4096)∧HS w0 noM [cb bK 127 (wF c p),cb b1 34 (xF oF cs.length cF g)] w∧Sl 126 [(86,.int .i64 i),(85,.int .i64 cs.length),(84,.slice oF cs.length cF),(5,.pointer (some (bat bK 0)))] a) (fun i=>cs.length - i)
    (fun a w=>(∀c∈cs,0≤c∧c≤4096)∧HS w0 noM [] w∧Sl 126 [] a) 0 ⟨_,0,⟨Nat.zero_le _,Int.le_refl _,by omega,(by rw [List.take_zero];exact fun c h=>absurd h List.not_mem_nil)⟩,hH,(hA.sub SBT)⟩ ?_ ?_
  · clear hA hH
    rintro i a w ⟨c,p,⟨hi,hp0,hp1,hcap⟩,hH,hA⟩
    by_cases hlt:i<cs.length
    rotate_left
    · obtain rfl:i=cs.length:=by omega
      rw [List.take_length] at hcap
      repeat' (first|(refine QT ?_;clear hA a;intro a hA)|refine CT ?_|(refine DT ?_ ?_<;>intro hc<;>try (exfalso;omega))|fail)
      exact ⟨hcap,hH.tail.tail,(hA.sub SBT)⟩
    obtain ⟨x,hx⟩:∃x,cs[i]?=some x:=⟨_,List.getElem?_eq_getElem hlt⟩
    have hvx:=yI (tY o) hx
    repeat' (first|(refine GT ?_ ?_<;>intro hg<;>clear hA a<;>intro a hA<;>(first|exact FA|replace hg:=dTr hg|replace hg:=dFa hg|skip))|(refine XT ?_;apply XE;(first|(apply zA (vs:=xR o x);rfl;rfl;exact yP hF id hvx)|(apply zB;rfl;rfl;omega;exact hspF));clear hA a;intro a hA)|(refine QT ?_;clear hA a;intro a hA)|(refine BT ?_;clear hA hH;rintro _ w ⟨bN,rfl,hH⟩ a hA)|(refine SAT (xR o x) hA hH ?_;clear hH;intro w hH)|(apply zT hA rfl rfl;apply zG (cs':=wF {c with caps:=x} p);rfl;rfl;rfl;exact hH;(repeat constructor);clear hH;rintro _ w hH)|refine CT ?_|(refine DT ?_ ?_<;>intro hc<;>try (exfalso;omega))|fail)
    · exact rt1 (.inl rfl) rfl hA rfl ⟨_,rfl,wD (fun h=>(by have:=h.caps x (List.mem_of_getElem? hx);omega)),hH.kp⟩
    · exact rt1 (.inl rfl) rfl hA rfl ⟨_,rfl,wD (fun h=>(by have:=h.caps x (List.mem_of_getElem? hx);omega)),hH.kp⟩
    have hxx:0≤x∧x≤4096:=by omega
    (refine zJ hA rfl rfl (by decide) (wQ hH) ?_;clear hA hH;rintro _ w ⟨m1,rfl,hH⟩ a hA)
    (refine zJ hA rfl rfl (by decide) (wQ hH) ?_;clear hA hH;rintro _ w ⟨m2,rfl,hH⟩ a hA)
    repeat' (first|(refine QT ?_;clear hA a;intro a hA)|(apply zT hA rfl rfl;apply kY;rfl;rfl;rfl;exact hH;(repeat constructor);clear hH;rintro _ w hH)|fail)
    (refine zJ hA rfl rfl (by decide) (lN hH) ?_;clear hA hH;rintro _ w ⟨m3,rfl,hH⟩ a hA)
    (refine zJ hA rfl rfl (by decide) (wQ hH) ?_;clear hA hH;rintro _ w ⟨m4,rfl,hH⟩ a hA)
    obtain ⟨ca,hca⟩:∃y:Kk,y={c with caps:=x}:=⟨_,rfl⟩
    have hH5:=hH.rm 0 |>.rm 0 |>.rm 0 |>.rm 0
    clear hH
    dsimp only [List.eraseIdx_cons_succ,List.eraseIdx_cons_zero] at hH5
    have hH:=hH5
    clear hH5
    rw [←hca] at hH
    obtain ⟨oP,nP,cP,g',oA',nA',cA',caps',e',n',j',o'⟩:=ca
    repeat' (first|(refine QT ?_;clear hA a;intro a hA)|(apply zT hA rfl rfl;apply zG (cs':=wF ⟨oP,nP,cP,g',oA',nA',cA',caps',some m1,n',j',o'⟩ p);rfl;rfl;rfl;exact hH;(repeat constructor);clear hH;rintro _ w hH)|(apply zT hA rfl rfl;apply zG (cs':=wF ⟨oP,nP,cP,g',oA',nA',cA',caps',some m1,some m2,j',o'⟩ p);rfl;rfl;rfl;exact hH;(repeat constructor);clear hH;rintro _ w hH)|(apply zT hA rfl rfl;apply zG (cs':=wF ⟨oP,nP,cP,g',oA',nA',cA',caps',some m1,some m2,some m3,o'⟩ p);rfl;rfl;rfl;exact hH;(repeat constructor);clear hH;rintro _ w hH)|(apply zT hA rfl rfl;apply zG (cs':=wF ⟨oP,nP,cP,g',oA',nA',cA',caps',some m1,some m2,some m3,some m4⟩ p);rfl;rfl;rfl;exact hH;(repeat constructor);clear hH;rintro _ w hH)|refine CT ?_|fail)
    repeat' (first|(refine XT ?_;apply XE;(first|(apply zA (vs:=encB o);rfl;rfl;exact qW MEMT (sub_bd o x)));clear hA a;intro a hA)|(refine QT ?_;clear hA a;intro a hA)|fail)
    (refine zJ hA rfl rfl (by decide) (zE rfl rfl rfl (body_spec w0 _ _ _ bK p o (hH.up 1 rfl) hr hp0 (by omega))) ?_;clear hA hH)
    rintro _ w ⟨rfl,hH⟩ a hA
    repeat' (first|(refine QT ?_;clear hA a;intro a hA)|refine CT ?_|fail)
    exact ⟨i+1,⟨_,p+2,⟨hlt,by omega,by omega,fQ hx hcap hxx⟩,hH.rm 1,(hA.sub SBT)⟩,by omega⟩
  clear hA hH
  rintro a w ⟨hcap,hH,hA⟩
  repeat' (first|(refine QT ?_;clear hA a;intro a hA)|refine CT ?_|fail)
  exact rt1 (.inl rfl) rfl hA rfl ⟨_,rfl,iff_of_true rfl ⟨hcl2,hcl4,hc0,hp1,hp2,hp3,hx4,hss4,hcap⟩,hH.kp⟩
end
def evs (f:Gr) (n:Nat):List Int:=(f.bs.l.take n).flatMap bvs
theorem qO {f:Gr} {n:Nat} {bl:Blc} (h:f.bs.l[n]?=some bl):evs f (n+1)=evs f n++bvs bl:=by
  unfold evs
  rw [yK h,List.flatMap_append]
  simp
theorem dF (f:Gr):evs f f.bs.l.length=f.bs.l.flatMap bvs:=by unfold evs;rw [List.take_length]
theorem EvOk.pre {a b:List Int} (h:EvOk (a++b)):EvOk a:=⟨(List.nodup_append.1 h.nd).1,fun x hx=>h.rg x (List.mem_append_left _ hx)⟩
theorem evs_pre (f:Gr) (n:Nat):∃t,f.bs.l.flatMap bvs=evs f n++t:=⟨(f.bs.l.drop n).flatMap bvs,by unfold evs;rw [←List.flatMap_append,List.take_append_drop]⟩
def dP (f:Gr) (n:Nat):Nat:=((f.bs.l.take n).map uZ).sum
theorem pI {f:Gr} {n:Nat} {bl:Blc} (h:f.bs.l[n]?=some bl):dP f (n+1)=dP f n+uZ bl:=by
  unfold dP
  rw [yK h,List.map_append,List.sum_append]
  simp
theorem dO (f:Gr) (n:Nat):dP f n≤grN f:=by
  unfold dP grN
  rw [List.map_take]
  exact sC _ _
theorem blkS_all (f:Gr):dP f f.bs.l.length=grN f:=by unfold dP grN;rw [List.take_length]
def BSn (f:Gr) (n k:Nat) (x:Int):Prop:=0<k∧∀m,m<n→∀bl,f.bs.l[m]?=some bl→goes bl k→x∈bvs bl∨BS f m x
theorem BS_eq (f:Gr) (k:Nat) (x:Int):BS f k x↔BSn f k k x:=by
  rw [BS]
  exact Iff.rfl
theorem jF {th:List (Option (Nat × List Int))} {n k:Nat} (h:k≠n):(isA (th.set n none) k↔isA th k)∧sA (th.set n none) k=sA th k:=by
  unfold isA sA
  rw [List.getElem?_set_ne (fun e=>h e.symm)]
  exact ⟨Iff.rfl,rfl⟩
structure LInv (g:Grs) (f:Gr) (la:List Int) (p0:Int) (n:Nat) (th:List (Option (Nat × List Int))) (p:Int):Prop where
  len:th.length=f.bs.l.length
  ev:EvOk (evs f n)
  size:p=p0+dP f n
  top:p≤65536
  blk:∀(m:Nat) (bl:Blc),f.bs.l[m]?=some bl→m<n→come f m∧BlkP g f la m bl (BS f m)
  is_:∀k:Nat,n≤k→(isA th k↔k=0∨∃(m:Nat) (bl:Blc),m<n∧f.bs.l[m]?=some bl∧goes bl k)
  set_:∀(k:Nat) (x:Int),n≤k→isA th k→(x∈sA th k↔BSn f n k x)
theorem LInv.come {g:Grs} {f:Gr} {la:List Int} {p0 p:Int} {n:Nat} {th:List (Option (Nat × List Int))} (h:LInv g f la p0 n th p):isA th n↔come f n:=h.is_ n (Nat.le_refl _)
theorem LInv.S {g:Grs} {f:Gr} {la:List Int} {p0 p:Int} {n:Nat} {th:List (Option (Nat × List Int))} (h:LInv g f la p0 n th p) (hi:isA th n):Sk (sA th n)=BS f n:=by
  funext x
  exact propext ((h.set_ n x (Nat.le_refl _) hi).trans (BS_eq f n x).symm)
theorem bT {S:Int→Prop} {bl:Blc} {x:Int}:vK S bl bl.is.l.length x↔x∈bvs bl∨S x:=by
  unfold vK bvs
  rw [List.take_length,List.mem_append]
  exact or_comm
theorem linv_next {g:Grs} {f:Gr} {la:List Int} {n:Nat} {th th':List (Option (Nat × List Int))} {p0 p:Int} {bl:Blc} (h:LInv g f la p0 n th p) (hbl:f.bs.l[n]?=some bl) (hc:BlkC g f la n bl th (evs f n) p)
    (hth:ThR (th.set n none) (vK (Sk (sA th n)) bl bl.is.l.length) bl.e.to.l th'):LInv g f la p0 (n+1) th' (p+(uZ bl:Int)):=by
  have hS:=h.S hc.come
  rw [hS] at hth
  have hsz:=h.size
  refine ⟨by rw [hth.len,List.length_set];exact h.len,by rw [qO hbl];exact hc.ev,by rw [pI hbl];omega,hc.size,fun m b hm hlt=>?_,fun k hk=>?_,fun k x hk hi=>?_⟩
  · by_cases hmn:m=n
    · subst hmn
      rw [hbl] at hm
      cases hm
      exact ⟨h.come.1 hc.come,hS▸hc.blk⟩
    · exact h.blk m b hm (by omega)
  · have h3:=jF (th:=th) (n:=n) (k:=k) (by omega)
    constructor
    · intro hi
      rcases hth.from_ k hi with h1| ⟨t,ht,h1⟩
      · rcases (h.is_ k (by omega)).1 (h3.1.1 h1) with h4| ⟨m,b,h4,h5⟩
        · exact .inl h4
        · exact .inr ⟨m,b,by omega,h5⟩
      · exact .inr ⟨n,bl,by omega,hbl,t,ht,h1⟩
    · rintro (h1| ⟨m,b,h1,h2,h4⟩)
      · omega
      · by_cases hmn:m=n
        · subst hmn
          rw [hbl] at h2
          cases h2
          obtain ⟨t,ht,h5⟩:=h4
          exact (hth.come t ht k h5).1
        · exact hth.keep k (h3.1.2 ((h.is_ k (by omega)).2 (.inr ⟨m,b,by omega,h2,h4⟩)))
  · have h3:=jF (th:=th) (n:=n) (k:=k) (by omega)
    constructor
    · intro hx
      refine ⟨by omega,fun m hm b hb hg=>?_⟩
      by_cases hmn:m=n
      · subst hmn
        rw [hbl] at hb
        cases hb
        obtain ⟨t,ht,h5⟩:=hg
        exact bT.1 ((hth.come t ht k h5).2 x hx)
      · have hik:isA th k:=(h.is_ k (by omega)).2 (.inr ⟨m,b,by omega,hb,hg⟩)
        have h4:=(hth.sub k x hx).1 (h3.1.2 hik)
        rw [h3.2] at h4
        exact ((h.set_ k x (by omega) hik).1 h4).2 m (by omega) b hb hg
    · rintro ⟨h1,h2⟩
      refine hth.all_ k x hi (fun hik=>?_) fun ⟨t,ht,h5⟩=>bT.2 (h2 n (by omega) bl hbl ⟨t,ht,h5⟩)
      rw [h3.2]
      exact (h.set_ k x (by omega) (h3.1.1 hik)).2 ⟨h1,fun m hm b hb hg=>h2 m (by omega) b hb hg⟩
theorem bZ {g:Grs} {f:Gr} {la:List Int} {p0 p:Int} {th:List (Option (Nat × List Int))} (h:LInv g f la p0 f.bs.l.length th p) (hne:0<f.bs.l.length):GrP g la f∧p=p0+grN f:=
  ⟨⟨hne,fun n bl hb=>h.blk n bl hb (List.getElem?_eq_some_iff.1 hb).1,dF f▸h.ev⟩,by rw [←blkS_all];exact h.size⟩
theorem linv_no {g:Grs} {f:Gr} {la:List Int} {p0 p:Int} {n:Nat} {th:List (Option (Nat × List Int))} {bl:Blc} (h:LInv g f la p0 n th p) (hbl:f.bs.l[n]?=some bl) (hc:¬BlkC g f la n bl th (evs f n) p):¬(GrP g la f∧p0+grN f≤65536):=by
  rintro ⟨hg,hp⟩
  have h1:=hg.blk n bl hbl
  have hi:=h.come.2 h1.1
  refine hc ⟨hi,by rw [h.S hi];exact h1.2,?_,?_⟩
  · obtain ⟨t,ht⟩:=evs_pre f (n+1)
    have h2:=hg.ev
    rw [ht] at h2
    rw [←qO hbl]
    exact h2.pre
  · have h2:=pI hbl
    have h3:=dO f (n+1)
    have h4:=h.size
    omega
theorem linv_0 (g:Grs) (f:Gr) (la:List Int) (b:Nat) (p:Int) (hp1:p≤65536) (hne:0<f.bs.l.length):LInv g f la p 0 ((List.replicate f.bs.l.length (none:Option (Nat × List Int))).set 0 (some (b,[]))) p:=by
  have hl:0<(List.replicate f.bs.l.length (none:Option (Nat × List Int))).length:=by rw [List.length_replicate];exact hne
  have hg:=cM hl (some (b,[]))
  have hr:∀k:Nat,k≠0→(((List.replicate f.bs.l.length (none:Option (Nat × List Int))).set 0 (some (b,[])))[k]?).getD none=none:=fun k hk=>by
    rw [hg,if_neg hk,List.getElem?_replicate]
    split<;>rfl
  have hi:∀k:Nat,isA ((List.replicate f.bs.l.length (none:Option (Nat × List Int))).set 0 (some (b,[]))) k↔k=0:=fun k=>by
    by_cases h0:k=0
    · subst h0
      unfold isA
      rw [hg,if_pos rfl]
      exact ⟨fun _=>rfl,fun _=>rfl⟩
    · unfold isA
      rw [hr k h0]
      exact ⟨fun h=>(by cases h),fun h=>absurd h h0⟩
  refine ⟨by rw [List.length_set,List.length_replicate],⟨List.nodup_nil,fun x hx=>absurd hx List.not_mem_nil⟩,?_,hp1,fun m bl hm h=>by omega,fun k hk=>?_,fun k x hk hik=>?_⟩
  · show p=p+((0:Nat):Int)
    omega
  · rw [hi]
    exact ⟨.inl,fun h=>h.elim id fun ⟨m,b,h1,_⟩=>by omega⟩
  · obtain rfl:=(hi k).1 hik
    constructor
    · intro hx
      unfold sA at hx
      rw [hg,if_pos rfl] at hx
      exact absurd hx List.not_mem_nil
    · rintro ⟨h1,_⟩
      omega
def grS (g:Grs) (i:Nat):Nat:=((g.fs.l.take i).map grN).sum
theorem aE {g:Grs} {i:Nat} {f:Gr} (h:g.fs.l[i]?=some f):grS g (i+1)=grS g i+grN f:=by
  unfold grS
  rw [yK h,List.map_append,List.sum_append]
  simp
theorem grS_le (g:Grs) (i:Nat):grS g i≤rW g:=by
  unfold grS rW
  rw [List.map_take]
  exact sC _ _
theorem grS_all (g:Grs):grS g g.fs.l.length=rW g:=by unfold grS rW;rw [List.take_length]
theorem sP {g:Grs} (h:¬MayP g):false=true↔MayP g:=⟨fun e=>(by cases e),fun e=>absurd e h⟩
theorem may_gr_no {g:Grs} {i:Nat} {f:Gr} {p:Int} (hf:g.fs.l[i]?=some f) (hp:p=grS g i) (h:¬(GrP g (g.fs.l.map Gr.caps) f∧p+grN f≤65536)):¬MayP g:=fun hm=>h ⟨hm.gr f (List.mem_of_getElem? hf),by
  have h1:=hm.size
  have h2:=aE hf
  have h3:=grS_le g (i+1)
  omega⟩
def gr00:Gr:=⟨0,yM⟩
def lZ (g:Grs) (f:Gr) (oA:Option Addr) (nA cA:Nat) (p:Int) (e:Option Nat) (oT:Option Addr) (nT cT:Nat):List Value:=[.slice g.fs.o g.fs.l.length g.fs.c,.slice g.ls.o g.ls.l.length g.ls.c,.slice g.ts.o g.ts.l.length g.ts.c,.slice g.xs.o g.xs.l.length g.xs.c,.slice g.ss.o g.ss.l.length g.ss.c,
  .int .i64 f.caps,.slice f.bs.o f.bs.l.length f.bs.c,.slice oA nA cA,.int .i64 p,.map e,.slice oT nT cT]
theorem encD_C (g:Grs) (f:Gr) (oA:Option Addr) (nA cA:Nat) (p:Int) (e:Nat) (oT:Option Addr) (nT cT:Nat):lZ g f oA nA cA p (some e) oT nT cT=wW ⟨g,f,oA,nA,cA,e,oT,nT,cT⟩ p:=rfl
theorem tB {l:List Gr} {i:Nat} {f:Gr} (h:l[i]?=some f):(l.take (i+1)).map Gr.caps=(l.take i).map Gr.caps++[f.caps]:=by rw [yK h,List.map_append];rfl
theorem nL {l:List Gr} {i:Nat} (h:i≤l.length):((l.take i).map Gr.caps).length=i:=by rw [List.length_map,List.length_take];omega
theorem flatF_snoc (o:Option Addr) (l:List Int) (c:Int):flat (xR o) l++xR o c=flat (xR o) (l++[c]):=by rw [vQ]
theorem fill_F (o:Option Addr) (c:Int) (z:Array Value) (hz:z.size=12):Instr.fill (([(0,1),(1,11)]:List (Nat × Nat))[·]?) z [(0,.int .i64 c),(1,.agg (encB o).toArray)]=some (xR o c).toArray:=by
  obtain ⟨l⟩:=z
  match l,hz with
  | [z0,z1,z2,z3,z4,z5,z6,z7,z8,z9,z10,z11],_=>
    simp [Instr.fill,xR,encB,Value.cells]
theorem rep_skb {w0 w:World} {M:Nat→Prop} {H:List It} (h:HS w0 M H w) (n:Nat):HS w0 M (all ((List.replicate n (none:Option (Nat × List Int))).map sko)::H) w:=by
  refine HS.shut ?_
  induction n with
  |zero=>exact h
  | succ n ih=>
    rw [List.replicate_succ,List.map_cons,List.cons_append]
    exact ih.nil_all
section
attribute [local irreducible] Code.wp wpList Calls Ex Op1 sat bat blk cb own Go.Fw.mp Go.Fw.mpO Go.Fw.mpI Go.Fw.mpE Go.Fw.itr HS Rd Ret wkD Hp Cl Cls Exit.then Exit.inBlock Exit.noGoto bodyPost Go.Fw.flat wk2 Go.Fw.all Go.Fw.owns wpOp
attribute [local irreducible] sk mpK sko mvO xM geS

theorem May_spec (w0:World) (g:Grs) (hR:RdGs w0 g) (hl:g.fs.l.length≤100000) (hbs:∀f∈g.fs.l,f.bs.l.length≤1048576∧∀bl∈f.bs.l,bl.e.to.l.length≤1048576) :
    Ret Tryz.prog 14 #[.agg (zZ g).toArray] w0 (fun v w=>∃b,v= .bool b∧Kp w0 noM w∧(b=true↔MayP g)):=by
  have hH:HS w0 noM [] w0:=HS.init w0 noM
  have hspF:Sp g.fs.o g.fs.l.length:=hR.1.1.sp (sz:=2) (zH wM _) (by omega)
  (refine ENT (N:=111) Tryz.func14 Tryz.ntmps14 ?_;intro a hA)
  repeat' (first|(refine XT ?_;apply XE;(first|(apply zK (cs:=(zV at0).toArray);rfl;exact FLT;rfl));clear hA a;intro a hA)|(refine QT ?_;clear hA a;intro a hA)|(refine BT ?_;clear hA hH;rintro _ w ⟨bN,rfl,hH⟩ a hA)|(refine LT ?_;clear hA hH;rintro _ w ⟨oN,rfl,hH⟩ a hA)|refine CT ?_|fail)
  obtain ⟨oN0,hoN0⟩:∃x,x=oN:=⟨_,rfl⟩
  rw [←hoN0] at hA hH
  clear hoN0 oN
  obtain ⟨b1,hb1⟩:∃x,x=bN:=⟨_,rfl⟩
  rw [←hb1] at hA hH
  clear hb1 bN
  repeat' (first|(refine XT ?_;apply XE;(first|(apply yZ (szs:=[(0,1),(1,1),(2,1),(3,1),(4,1),(5,4),(9,1),(10,1)]) (cs:=(encB oN0).toArray);exact xS (by (repeat (first|exact SzL.nil|refine SzL.cons ⟨_,rfl,by decide⟩ ?_)));rfl;rfl));clear hA a;intro a hA)|(refine QT ?_;clear hA a;intro a hA)|(refine BT ?_;clear hA hH;rintro _ w ⟨bN,rfl,hH⟩ a hA)|(refine SAT (encB oN0) hA hH ?_;clear hH;intro w hH)|refine CT ?_|fail)
  obtain ⟨b3,hb3⟩:∃x,x=bN:=⟨_,rfl⟩
  rw [←hb3] at hA hH
  clear hb3 bN
  repeat' (first|(refine XT ?_;apply XE;(first|(apply zK (cs:=(xF none 0 0 g).toArray);rfl;exact FLT;rfl));clear hA a;intro a hA)|(refine QT ?_;clear hA a;intro a hA)|(refine BT ?_;clear hA hH;rintro _ w ⟨bN,rfl,hH⟩ a hA)|(refine SAT (xF none 0 0 g) hA hH ?_;clear hH;intro w hH)|refine CT ?_|fail)
  obtain ⟨b4,hb4⟩:∃x,x=bN:=⟨_,rfl⟩
  rw [←hb4] at hA hH
  clear hb4 bN
  refine zU (S:=Nat) (fun i a w=>∃oF cF,i≤g.fs.l.length∧HS w0 noM [cb b4 34 (xF oF i cF g),own 72 12 oF i cF (flat (xR oN0) ((g.fs.l.take i).map Gr.caps)),cb b3 70 (encB oN0),own 65 2 oN0 1 1 (zV at0),cb b1 25 (zZ g)] w∧
      Sl 111 [(28,.int .i64 i),(27,.int .i64 g.fs.l.length),(26,.slice g.fs.o g.fs.l.length g.fs.c),(4,.pointer (some (bat b4 0))),(3,.pointer (some (bat b3 0))),(2,.bool false),(1,.pointer (some (bat b1 0)))] a) (fun i=>g.fs.l.length - i)
    (fun a w=>∃oF cF,HS w0 noM [cb b4 34 (xF oF g.fs.l.length cF g),own 72 12 oF g.fs.l.length cF (flat (xR oN0) ((g.fs.l.take g.fs.l.length).map Gr.caps)),cb b3 70 (encB oN0),own 65 2 oN0 1 1 (zV at0),cb b1 25 (zZ g)] w∧
      Sl 111 [(4,.pointer (some (bat b4 0))),(2,.bool false),(1,.pointer (some (bat b1 0)))] a) 0 ⟨none,0,Nat.zero_le _,(by rw [List.take_zero];exact (hH.nil_flat (xR oN0) 72 12).perm PMT),(hA.sub SBT)⟩ ?_ ?_
  · clear hA hH
    rintro i a w ⟨oF,cF,hi,hH,hA⟩
    by_cases hlt:i<g.fs.l.length
    rotate_left
    · obtain rfl:i=g.fs.l.length:=by omega
      repeat' (first|(refine QT ?_;clear hA a;intro a hA)|refine CT ?_|(refine DT ?_ ?_<;>intro hc<;>try (exfalso;omega))|fail)
      exact ⟨oF,cF,hH,(hA.sub SBT)⟩
    obtain ⟨f,hf⟩:∃x,g.fs.l[i]?=some x:=⟨_,List.getElem?_eq_getElem hlt⟩
    have hvf:=yI wM hf
    have hcl:=nL (l:=g.fs.l) hi
    repeat' (first|(refine XT ?_;apply XE;(first|(apply zA (vs:=wE f);rfl;rfl;exact yP hR.1.1 id hvf)|(apply zB;rfl;rfl;omega;exact hspF));clear hA a;intro a hA)|(refine QT ?_;clear hA a;intro a hA)|(refine BT ?_;clear hA hH;rintro _ w ⟨bN,rfl,hH⟩ a hA)|(refine SAT (wE f) hA hH ?_;clear hH;intro w hH)|refine CT ?_|(refine DT ?_ ?_<;>intro hc<;>try (exfalso;omega))|fail)
    (refine sU hA hH rfl rfl (by decide) (yZ (szs:=[(0,1),(1,11)]) (cs:=(xR oN0 f.caps).toArray) (xS (.cons ⟨_,rfl,by decide⟩ (.cons ⟨_,rfl,by decide⟩ .nil))) rfl (fill_F oN0 f.caps _ rfl)) ?_;clear hA a;intro a hA)
    obtain ⟨fc,hfc⟩:∃x,x=xR oN0 f.caps:=⟨_,rfl⟩
    have hfl:fc.length=12:=by rw [hfc];rfl
    have hfo:fc.all (·.oneCell')=true:=by rw [hfc];rfl
    rw [←hfc] at hA
    have hcats:Cats 12 [.agg fc.toArray] fc:=by
      have h:=Cats.cn (cs:=fc) Cats.nil
      rw [hfl,List.append_nil] at h
      exact h
    (apply zJ hA rfl rfl (by decide);apply zQ (xs:=fc) (vs:=[.agg fc.toArray]);rfl;rfl;exact hcats;rfl;rfl;rfl;exact hH;clear hA hH;rintro _ w ⟨oL,rfl,hH⟩ a hA)
    (apply zJ hA rfl rfl (by decide);apply yE;rfl;rfl;exact hH;exact MEMT;exact (hH.own_rd (List.Mem.head _));exact hfl;rfl;decide;exact hfo;(unfold maxLen;omega);omega;clear hA;rintro _ w ⟨oN,cN,rfl,hH2⟩ a hA;clear hH;have hH:=hH2 _ (by (repeat constructor));clear hH2)
    rw [hfc,flatF_snoc,←tB hf] at hH
    repeat' (first|(refine QT ?_;clear hA a;intro a hA)|(apply zT hA rfl rfl;apply zG (cs':=xF oN (i+1) cN g);rfl;rfl;rfl;exact hH;(repeat constructor);clear hH;rintro _ w hH)|refine CT ?_|fail)
    exact ⟨i+1,⟨oN,cN,hlt,(((hH.rm 0).rm 0).perm PMT),(hA.sub SBT)⟩,by omega⟩
  clear hA hH
  rintro a w ⟨oF,cF,hH,hA⟩
  rw [List.take_length] at hH
  obtain ⟨cl,hcl⟩:∃x,x=g.fs.l.map Gr.caps:=⟨_,rfl⟩
  have hcll:cl.length=g.fs.l.length:=by rw [hcl,List.length_map]
  rw [←hcl,←hcll] at hH
  repeat' (first|(refine QT ?_;clear hA a;intro a hA)|refine CT ?_|fail)
  have hcl0:=hcl
  (refine zJ hA rfl rfl (by decide) (zE rfl rfl rfl (anfMay_spec _ oF cF cl oN0 g (hH.own_rd (.tail _ (.head _))) (hH.own_rd (T:=65) (n:=1) (cap:=1) (sz:=2) (by exact MEMT)) (by omega) (hR.2.2.1.keep hH.kp) (hR.2.2.2.1.keep hH.kp) (hR.2.2.2.2.1.keep hH.kp) (hR.2.2.2.2.2.keep hH.kp))) ?_;clear hA;rintro _ w ⟨b,rfl,hbA,hk⟩ a hA;replace hH:=hH.keep hk;clear hk)
  rw [hcl] at hbA
  repeat' (first|(refine XT ?_;apply XE;(first|(apply yZ (szs:=[(0,5),(5,2),(7,1),(8,1),(9,1),(10,1)]) (cs:=(lZ g gr00 none 0 0 0 none none 0 0).toArray);exact xS (by (repeat (first|exact SzL.nil|refine SzL.cons ⟨_,rfl,by decide⟩ ?_)));rfl;rfl));clear hA a;intro a hA)|(refine QT ?_;clear hA a;intro a hA)|(refine BT ?_;clear hA hH;rintro _ w ⟨bN,rfl,hH⟩ a hA)|refine CT ?_|(refine DT ?_ ?_<;>intro hc<;>try (exfalso;omega))|fail)
  · exact rt1 (.inl rfl) rfl hA rfl ⟨_,rfl,hH.kp,sP (fun h=>pL hbA (by assumption) h.anf)⟩
  have hanf:=sO hbA (by assumption)
  clear hbA
  obtain ⟨bC,hbC⟩:∃x,x=bN:=⟨_,rfl⟩
  rw [←hbC] at hA hH
  clear hbC bN
  refine zU (S:=Nat) (fun i a w=>∃oA cA,i≤g.fs.l.length∧HS w0 noM [cb bC 112 (lZ g gr00 oA i cA 0 none none 0 0),own 3 1 oA i cA (flat Fw.encI ((g.fs.l.take i).map Gr.caps)),cb b1 25 (zZ g)] w∧
      Sl 111 [(51,.int .i64 i),(50,.int .i64 g.fs.l.length),(49,.slice g.fs.o g.fs.l.length g.fs.c),(7,.pointer (some (bat bC 0))),(2,.bool false),(1,.pointer (some (bat b1 0)))] a) (fun i=>g.fs.l.length - i)
    (fun a w=>∃oA cA,HS w0 noM [cb bC 112 (lZ g gr00 oA g.fs.l.length cA 0 none none 0 0),own 3 1 oA g.fs.l.length cA (flat Fw.encI ((g.fs.l.take g.fs.l.length).map Gr.caps)),cb b1 25 (zZ g)] w∧
      Sl 111 [(7,.pointer (some (bat bC 0))),(2,.bool false),(1,.pointer (some (bat b1 0)))] a) 0 ⟨none,0,Nat.zero_le _,(by rw [List.take_zero];exact HS.left (H1:=[_,_,_]) ((hH.nil_flat Fw.encI 3 1).perm PMT)),(hA.sub SBT)⟩ ?_ ?_
  · clear hA hH
    rintro i a w ⟨oA,cA,hi,hH,hA⟩
    by_cases hlt:i<g.fs.l.length
    rotate_left
    · obtain rfl:i=g.fs.l.length:=by omega
      repeat' (first|(refine QT ?_;clear hA a;intro a hA)|refine CT ?_|(refine DT ?_ ?_<;>intro hc<;>try (exfalso;omega))|fail)
      exact ⟨oA,cA,hH,(hA.sub SBT)⟩
    obtain ⟨f,hf⟩:∃x,g.fs.l[i]?=some x:=⟨_,List.getElem?_eq_getElem hlt⟩
    have hvf:=yI wM hf
    repeat' (first|(refine XT ?_;apply XE;(first|(apply zA (vs:=wE f);rfl;rfl;exact yP hR.1.1 id hvf)|(apply zB;rfl;rfl;omega;exact hspF));clear hA a;intro a hA)|(refine QT ?_;clear hA a;intro a hA)|(refine BT ?_;clear hA hH;rintro _ w ⟨bN,rfl,hH⟩ a hA)|(refine SAT (wE f) hA hH ?_;clear hH;intro w hH)|refine CT ?_|(refine DT ?_ ?_<;>intro hc<;>try (exfalso;omega))|fail)
    have hST:HS w0 noM [cb bN 44 (wE f),cb bC 112 (lZ g gr00 oA i cA 0 none none 0 0)] w:=HS.left (H1:=[_,_]) hH
    (refine zN (H:=[_,_]) [(0,1),(1,1),(2,1),(3,1),(4,1),(5,1),(6,1),(7,0),(8,0),(9,1),(10,1)] [11] mixed (by decide +kernel) (hST) ?_;replace hH:=hH.drew)
    clear hST
    repeat' (first|(refine QT ?_;clear hA a;intro a hA)|(refine DLT ?_;clear hA hH;rintro _ w ⟨oN,rfl,hH⟩;refine ⟨STT,?_⟩;intro a hA)|fail)
    (apply yC hA rfl rfl rfl (by decide);apply zQ;rfl;rfl;exact CATST;rfl;rfl;rfl;exact hH;clear hA hH;rintro _ w ⟨oN,rfl,hH⟩;refine ⟨HS.left (H1:=[_,_]) hH.tail,?_⟩;intro a hA)
    (apply yC hA rfl rfl rfl (by decide);apply yE;rfl;rfl;exact hH;exact MEMT;exact (hH.own_rd (List.Mem.head _));exact rfl;rfl;decide;exact rfl;(unfold maxLen;omega);omega;clear hA;rintro _ w ⟨oN,cN,rfl,hH2⟩;clear hH;have hH:=hH2 _ (by (repeat constructor));clear hH2;refine ⟨HS.left (H1:=[_,_]) hH.tail,?_⟩;intro a hA)
    rw [uJ,←tB hf] at hH
    repeat' (first|(refine QT ?_;clear hA a;intro a hA)|refine CT ?_|fail)
    (apply yB hA rfl rfl rfl;apply zG (cs':=lZ g gr00 oN (i+1) cN 0 none none 0 0);rfl;rfl;rfl;exact hH;(repeat constructor);clear hH;rintro _ w hH)
    repeat' (first|(refine QT ?_;clear hA a;intro a hA)|refine CT ?_|fail)
    exact ⟨i+1,⟨oN,cN,hlt,(((hH.rm 0).rm 0).perm PMT),(hA.sub SBT)⟩,by omega⟩
  clear hA hH
  rintro a w ⟨oA,cA,hH,hA⟩
  rw [List.take_length,←hcl,←hcll] at hH
  repeat' (first|(refine QT ?_;clear hA a;intro a hA)|refine CT ?_|fail)
  refine zU (S:=Nat) (fun i a w=>∃f e oT nT cT,∃p:Int,(i≤g.fs.l.length∧p=(grS g i:Int)∧p≤65536∧∀k f,g.fs.l[k]?=some f→k<i→GrP g (g.fs.l.map Gr.caps) f)∧HS w0 noM [cb bC 112 (lZ g f oA cl.length cA p e oT nT cT),own 3 1 oA cl.length cA (flat Fw.encI cl),cb b1 25 (zZ g)] w∧
      Sl 111 [(70,.int .i64 i),(69,.int .i64 g.fs.l.length),(68,.slice g.fs.o g.fs.l.length g.fs.c),(7,.pointer (some (bat bC 0))),(2,.bool false),(1,.pointer (some (bat b1 0)))] a) (fun i=>g.fs.l.length - i)
    (fun a w=>MayP g∧HS w0 noM [] w∧Sl 111 [] a) 0 ⟨gr00,none,none,0,0,0,⟨Nat.zero_le _,rfl,by decide,fun k f hk h=>absurd h (Nat.not_lt_zero _)⟩,hH,(hA.sub SBT)⟩ ?_ ?_
  · clear hA hH
    rintro i a w ⟨f0,e0,oT0,nT0,cT0,p,⟨hi,hp0,hp1,hok⟩,hH,hA⟩
    by_cases hlt:i<g.fs.l.length
    rotate_left
    · obtain rfl:i=g.fs.l.length:=by omega
      repeat' (first|(refine QT ?_;clear hA a;intro a hA)|refine CT ?_|(refine DT ?_ ?_<;>intro hc<;>try (exfalso;omega))|fail)
      refine ⟨⟨hanf,fun f hf=>?_,by rw [←grS_all];omega⟩,hH.tail.tail.tail,(hA.sub SBT)⟩
      obtain ⟨k,hk⟩:=List.getElem?_of_mem hf
      exact hok k f hk (List.getElem?_eq_some_iff.1 hk).1
    obtain ⟨f,hf⟩:∃x,g.fs.l[i]?=some x:=⟨_,List.getElem?_eq_getElem hlt⟩
    have hfm:=List.mem_of_getElem? hf
    have hRf:=hR.2.1 f hfm
    obtain ⟨hfb,hto⟩:=hbs f hfm
    have hvf:=yI wM hf
    repeat' (first|(refine XT ?_;apply XE;(first|(apply zA (vs:=wE f);rfl;rfl;exact yP hR.1.1 id hvf)|(apply zB;rfl;rfl;omega;exact hspF));clear hA a;intro a hA)|(refine QT ?_;clear hA a;intro a hA)|(refine BT ?_;clear hA hH;rintro _ w ⟨bN,rfl,hH⟩ a hA)|(refine SAT (wE f) hA hH ?_;clear hH;intro w hH)|refine CT ?_|(refine DT ?_ ?_<;>intro hc<;>try (exfalso;omega))|fail)
    have hST:HS w0 noM [cb bN 44 (wE f)] w:=HS.left (H1:=[_]) hH
    obtain ⟨b11,hb11⟩:∃x,x=bN:=⟨_,rfl⟩
    rw [←hb11] at hA hH hST
    clear hb11 bN
    refine wp_drawT3 (qs3 [0,1,2,3,5,6,7] (.q 9 (.q 10 (.three 4 8 11 (.two 8 11 (.one 11 (.q 12 (.q 13 (.one 14 (.q 15 (.q 16 (.one 17 .nil))))))) (.q 12 (.q 13 (.two 8 14 (.one 14 (.q 15 (.q 16 (.one 17 .nil)))) (.one 8 (.q 15 (.q 16 (.one 17 .nil)))))))) (.two 4 11 (.one 11 (.q 12 (.q 13 (.one 14 (.q 15 (.q 16 (.one 17 .nil))))))) (.one 4 (.q 12 (.q 13 (.one 14 (.q 15 (.q 16 (.one 17 .nil)))))))) (.two 4 8 (.q 12 (.q 13 (.two 8 14 (.one 14 (.q 15 (.q 16 (.one 17 .nil)))) (.one 8 (.q 15 (.q 16 (.one 17 .nil))))))) (.one 4 (.q 12 (.q 13 (.one 14 (.q 15 (.q 16 (.one 17 .nil)))))))))))) (fun a w=>∃bE oT,HS w0 noM [cb bC 112 (lZ g f oA cl.length cA p (some bE) oT f.bs.l.length f.bs.l.length),sk bE [],own 109 1 oT f.bs.l.length f.bs.l.length (flat wU (List.replicate f.bs.l.length (none:Option (Nat × List Int)))),cb b11 44 (wE f),own 3 1 oA cl.length cA (flat Fw.encI cl),cb b1 25 (zZ g)] w∧
      Sl 111 [(11,.pointer (some (bat b11 0))),(70,.int .i64 i),(69,.int .i64 g.fs.l.length),(68,.slice g.fs.o g.fs.l.length g.fs.c),(7,.pointer (some (bat bC 0))),(2,.bool false),(1,.pointer (some (bat b1 0)))] a) mixed (by decide +kernel) hST ?_ ?_
    · clear hST
      replace hH:=hH.drew
      repeat' (first|apply d3_three|apply d3_two|(apply d3_ex hA rfl rfl rfl (by decide);exact EXT;clear hA a;intro a hA)|(refine d3_op hA rfl rfl rfl (by decide) (wQ hH) ?_;clear hA hH;rintro _ w ⟨bE,rfl,hH⟩;refine ⟨hH.pick (by exact MEMT),?_⟩;intro a hA)|(apply d3_op hA rfl rfl rfl (by decide);apply nH wU (none:Option (Nat × List Int)) (n:=f.bs.l.length);rfl;rfl;omega;omega;(unfold maxLen;omega);omega;rfl;rfl;exact hH;clear hA hH;rintro _ w ⟨oT,rfl,hH⟩;refine ⟨hH.pick (by exact MEMT),?_⟩;intro a hA)|(refine d3_op0 hA rfl rfl rfl (wP (vs:=wE f) (cs':=lZ g f oA cl.length cA p e0 oT0 nT0 cT0) rfl rfl hH (by (repeat constructor)) rfl rfl rfl (Nat.le_of_ble_eq_true rfl) rfl) ?_;clear hH;rintro _ w hH;refine ⟨hH.pick (by exact MEMT),?_⟩)|(refine d3_op0 hA rfl rfl rfl (zG (cs':=lZ g f oA cl.length cA p (some bE) oT0 nT0 cT0) rfl rfl rfl hH (by (repeat constructor)) rfl rfl) ?_;clear hH;rintro _ w hH;refine ⟨hH.pick (by exact MEMT),?_⟩)|(refine d3_op0 hA rfl rfl rfl (zG (cs':=lZ g f oA cl.length cA p (some bE) oT f.bs.l.length f.bs.l.length) rfl rfl rfl hH (by (repeat constructor)) rfl rfl) ?_;clear hH;rintro _ w hH;refine ⟨hH.pick (by exact MEMT),?_⟩))
      all_goals exact ⟨_,_,hH.perm PMT,(hA.sub SBT)⟩
    clear hA hH hST
    rintro a w ⟨bE,oT,hH,hA⟩
    repeat' (first|(refine QT ?_;clear hA a;intro a hA)|refine CT ?_|(refine DT ?_ ?_<;>intro hc<;>try (exfalso;omega))|fail)
    · exact rt1 (.inl rfl) rfl hA rfl ⟨_,rfl,hH.kp,sP (fun h=>(by have:=(h.gr f hfm).ne;omega))⟩
    have hne:0<f.bs.l.length:=by omega
    have hspT:Sp oT f.bs.l.length:=hH.own_sp (T:=109) (.tail _ (.tail _ (.head _)))
    (refine zJ hA rfl rfl (by decide) (wQ hH) ?_;clear hA hH;rintro _ w ⟨b0,rfl,hH⟩ a hA)
    repeat' (first|(refine XT ?_;apply XE;(first|(apply zC;rfl;rfl;decide;omega;exact hspT));clear hA a;intro a hA)|(refine QT ?_;clear hA a;intro a hA)|(apply zT hA rfl rfl;apply eI (enc:=wU) (y0:=some (b0,[]));rfl;rfl;rfl;rfl;exact rD;exact hH;(repeat constructor);(rw [List.length_replicate];exact hne);clear hH;rintro _ w hH)|refine CT ?_|fail)
    obtain ⟨tc0,htc0⟩:∃x,x=(List.replicate f.bs.l.length (none:Option (Nat × List Int))).set 0 (some (b0,[])):=⟨_,rfl⟩
    have htz:Int.toNat 0*1=0:=rfl
    rw [htz,←htc0] at hH
    have hl0:0<((List.replicate f.bs.l.length (none:Option (Nat × List Int))).map sko).length:=by rw [List.length_map,List.length_replicate];exact hne
    have hH1:=(rep_skb hH f.bs.l.length).openAt (List.getElem?_eq_getElem hl0)
    clear hH
    have hH:=((hH1.tail).perm (H':=sk b0 []::all (((List.replicate f.bs.l.length (none:Option (Nat × List Int))).map sko).eraseIdx 0)::cb bC 112 (lZ g f oA cl.length cA p (some bE) oT f.bs.l.length f.bs.l.length)::sk bE []::own 109 1 oT f.bs.l.length f.bs.l.length (flat wU tc0)::cb b11 44 (wE f)::own 3 1 oA cl.length cA (flat Fw.encI cl)::cb b1 25 (zZ g)::[]) PMT).shutAt hl0
    clear hH1
    rw [kQ,←htc0,encD_C] at hH
    have hinv:=linv_0 g f cl b0 p hp1 hne
    rw [←htc0] at hinv
    clear htc0
    obtain ⟨p0,hpp⟩:∃x,x=p:=⟨_,rfl⟩
    rw [←hpp] at hH
    have hinv0:=hinv
    rw [←hpp] at hinv0 hp0 hp1
    clear hinv
    have hinv:=hinv0
    clear hinv0 hpp p
    obtain ⟨c,hcE⟩:∃x:Ck,x=⟨g,f,oA,cl.length,cA,bE,oT,f.bs.l.length,f.bs.l.length⟩:=⟨_,rfl⟩
    rw [←hcE] at hH
    refine zU (S:=Nat) (fun n a w=>∃tc th,∃p:Int,(n≤f.bs.l.length∧LInv g f cl p0 n th p∧tc.length=th.length∧∀m,n≤m→tc[m]?=th[m]?)∧HS w0 noM [cb bC 112 (wW c p),sk bE (evs f n),own 109 1 oT f.bs.l.length f.bs.l.length (flat wU tc),all (th.map sko),cb b11 44 (wE f),own 3 1 oA cl.length cA (flat Fw.encI cl),cb b1 25 (zZ g)] w∧
        Sl 111 [(102,.int .i64 n),(101,.int .i64 f.bs.l.length),(100,.slice f.bs.o f.bs.l.length f.bs.c),(70,.int .i64 i),(69,.int .i64 g.fs.l.length),(68,.slice g.fs.o g.fs.l.length g.fs.c),(7,.pointer (some (bat bC 0))),(2,.bool false),(1,.pointer (some (bat b1 0)))] a) (fun n=>f.bs.l.length - n)
      (fun a w=>∃p:Int,(GrP g cl f∧p=p0+grN f∧p≤65536)∧HS w0 noM [cb bC 112 (wW c p),own 3 1 oA cl.length cA (flat Fw.encI cl),cb b1 25 (zZ g)] w∧
        Sl 111 [(70,.int .i64 i),(69,.int .i64 g.fs.l.length),(68,.slice g.fs.o g.fs.l.length g.fs.c),(7,.pointer (some (bat bC 0))),(2,.bool false),(1,.pointer (some (bat b1 0)))] a) 0
      ⟨tc0,tc0,p0,⟨Nat.zero_le _,hinv,rfl,fun m _=>rfl⟩,hH.perm PMT,(hA.sub SBT)⟩ ?_ ?_
    · clear hA hH hinv hl0
      rintro n a w ⟨tc,th,p,⟨hn,hinv,htl,hag⟩,hH,hA⟩
      have hsz:=hinv.size
      have htp:=hinv.top
      by_cases hltn:n<f.bs.l.length
      rotate_left
      · obtain rfl:n=f.bs.l.length:=by omega
        repeat' (first|(refine QT ?_;clear hA a;intro a hA)|refine CT ?_|(refine DT ?_ ?_<;>intro hc<;>try (exfalso;omega))|fail)
        exact ⟨p,⟨(bZ hinv hne).1,(bZ hinv hne).2,htp⟩,((hH.rm 1).rm 1).rm 1 |>.rm 1,(hA.sub SBT)⟩
      obtain ⟨bl,hbl⟩:∃bl,f.bs.l[n]?=some bl:=⟨_,List.getElem?_eq_getElem hltn⟩
      repeat' (first|(refine QT ?_;clear hA a;intro a hA)|refine CT ?_|(refine DT ?_ ?_<;>intro hc<;>try (exfalso;omega))|fail)
      have hcf:c.f=f:=by rw [hcE]
      have hcg:c.g=g:=by rw [hcE]
      have hbs2:=block_spec w0 w [cb b11 44 (wE f),own 3 1 oA cl.length cA (flat Fw.encI cl),cb b1 25 (zZ g)] c bC n p (evs f n) cl tc th bl (by subst hcE;exact hH) (by subst hcE;exact .tail _ (.head _)) (by subst hcE;rfl) (by omega) (by rw [hcf];exact hRf) (by rw [hcf];exact hbl) (hto bl (List.mem_of_getElem? hbl)) (by subst hcE;exact hinv.len.symm) htl (by rw [hcf];exact hinv.len) hag (by omega) htp hinv.ev
      (refine zJ hA rfl rfl (by decide) (zE rfl rfl rfl hbs2) ?_;clear hA hH hbs2)
      rintro _ w (⟨rfl,hblk,hH⟩| ⟨rfl,hblk,tc',th',hthr,htcl,hag',hH⟩) a hA
      · rw [hcf,hcg] at hblk
        repeat' (first|(refine QT ?_;clear hA a;intro a hA)|refine CT ?_|fail)
        exact rt1 (.inl rfl) rfl hA rfl ⟨_,rfl,hH.kp,sP (may_gr_no hf hp0 (hcl▸linv_no hinv hbl hblk))⟩
      rw [hcf,hcg] at hblk
      have hinv2:=linv_next hinv hbl hblk hthr
      repeat' (first|(refine QT ?_;clear hA a;intro a hA)|refine CT ?_|fail)
      have e5:c.bE=bE:=by rw [hcE]
      have e6:c.oT=oT:=by rw [hcE]
      have e7:c.nT=f.bs.l.length:=by rw [hcE]
      have e8:c.cT=f.bs.l.length:=by rw [hcE]
      rw [e5,e6,e7,e8,←qO hbl] at hH
      exact ⟨n+1,⟨tc',th',_,⟨hltn,hinv2,by rw [htcl,htl,hinv2.len,hinv.len],fun m hm=>hag' m (by omega)⟩,hH,(hA.sub SBT)⟩,by omega⟩
    clear hA hH hinv
    rintro a w ⟨p',⟨hg,hpe,hpt⟩,hH,hA⟩
    rw [hcl] at hg
    subst hcE
    rw [←encD_C] at hH
    repeat' (first|(refine QT ?_;clear hA a;intro a hA)|refine CT ?_|fail)
    exact ⟨i+1,⟨f,some bE,oT,_,_,p',⟨hlt,(by rw [aE hf];omega),hpt,fun k f' hk hlt2=>(by
      by_cases hki:k=i
      · subst hki
        rw [hf] at hk
        cases hk
        exact hg
      · exact hok k f' hk (by omega))⟩,hH,(hA.sub SBT)⟩,by omega⟩
  clear hA hH
  rintro a w ⟨hall,hH,hA⟩
  repeat' (first|(refine QT ?_;clear hA a;intro a hA)|refine CT ?_|fail)
  exact rt1 (.inl rfl) rfl hA rfl ⟨_,rfl,hH.kp,iff_of_true rfl hall⟩
end
theorem bsL_step {l:List Int} {x:Int} {i j:Nat} (h:i<j):bsL l x i j=if l.getD ((i+j) / 2) 0<x then bsL l x ((i+j) / 2+1) j else bsL l x i ((i+j) / 2):=by
  rw [bsL,if_pos h]
theorem bsL_end {l:List Int} {x:Int} {i j:Nat} (h:¬i<j):bsL l x i j=i:=by
  rw [bsL,if_neg h]
theorem half_u {i j:Nat} (h:i+j≤4000000000):IntKind.i64.wrap (pR .u64 (IntKind.u64.wrap ((i:Int)+(j:Int))) 1)=(((i+j) / 2:Nat):Int):=by
  have e1:IntKind.u64.wrap ((i:Int)+(j:Int))=((i+j:Nat):Int):=by
    rw [←Int.natCast_add]
    exact IntWalk.u64_in _ ⟨by omega,by omega⟩
  have e2:pR .u64 ((i+j:Nat):Int) 1=(((i+j) / 2:Nat):Int):=by
    unfold pR
    have:min (Int.toNat 1) IntKind.u64.bits=1:=by decide
    rw [this]
    show Int.fdiv _ 2=_
    rw [Int.fdiv_eq_ediv_of_nonneg _ (by omega)]
    omega
  rw [e1,e2]
  exact wA (by unfold uA;omega)
theorem bsB_t {l:List Int} {x:Int} (h:bsI l x<l.length∧l.getD (bsI l x) 0=x):bsB l x=true:=decide_eq_true h
theorem bsB_f {l:List Int} {x:Int} (h:¬(bsI l x<l.length∧l.getD (bsI l x) 0=x)):bsB l x=false:=decide_eq_false h
section
attribute [local irreducible] Code.wp wpList Calls Ex Op1 sat bat blk cb own Go.Fw.mp Go.Fw.mpO Go.Fw.mpI Go.Fw.mpE Go.Fw.itr HS Rd Ret wkD Hp Cl Cls Exit.then Exit.inBlock Exit.noGoto bodyPost Go.Fw.flat wk2 Go.Fw.all Go.Fw.owns wpOp
attribute [local irreducible] sk mpK sko mvO xM opM Go.Fw.mset Go.Fw.mv opK w63

theorem isNaN_spec (w0:World) (m:Int):Ret Tryz.prog 99 #[.int .i64 m] w0 (fun v w=>v= .bool false∧Kp w0 noM w):=by
  have hH:HS w0 noM [] w0:=HS.init w0 noM
  (refine ENT (N:=6) Tryz.func99 Tryz.ntmps99 ?_;intro a hA)
  repeat' (first|(refine QT ?_;clear hA a;intro a hA)|refine CT ?_|fail)
  exact rt1 (.inl rfl) rfl hA rfl ⟨by simp,hH.kp⟩
theorem aA (w0:World) (m:Int):Ret Tryz.prog 124 #[.int .i64 m] w0 (fun v w=>v= .bool false∧Kp w0 noM w):=by
  have hH:HS w0 noM [] w0:=HS.init w0 noM
  (refine ENT (N:=6) Tryz.func124 Tryz.ntmps124 ?_;intro a hA)
  repeat' (first|(refine QT ?_;clear hA a;intro a hA)|refine CT ?_|fail)
  exact rt1 (.inl rfl) rfl hA rfl ⟨by simp,hH.kp⟩
theorem Less_spec (w0:World) (m n:Int):Ret Tryz.prog 98 #[.int .i64 m,.int .i64 n] w0 (fun v w=>v= .bool (decide (m<n))∧Kp w0 noM w):=by
  have hH:HS w0 noM [] w0:=HS.init w0 noM
  (refine ENT (N:=17) Tryz.func98 Tryz.ntmps98 ?_;intro a hA)
  repeat' (first|(refine GT ?_ ?_<;>intro hg<;>clear hA a<;>intro a hA<;>(first|exact FA|replace hg:=dTr hg|replace hg:=dFa hg|skip))|(refine QT ?_;clear hA a;intro a hA)|(refine zJ hA rfl rfl (by decide) (zE rfl rfl rfl (aA _ _)) ?_;clear hA;rintro _ w ⟨rfl,hk⟩ a hA;replace hH:=hH.keep hk;clear hk)|refine CT ?_|fail)
  all_goals exact rt1 (.inl rfl) rfl hA rfl ⟨rfl,hH.kp⟩
theorem dN (w0:World) (o:Option Addr) (c:Nat) (l:List Int) (x:Int) (hR:Rd w0 o (flat Fw.encI l)) (hl:l.length≤2000000000) :
    Ret Tryz.prog 57 #[.slice o l.length c,.int .i64 x] w0 (fun v w=>v= .tuple #[.int .i64 (bsI l x),.bool (bsB l x)]∧Kp w0 noM w):=by
  have hH:HS w0 noM [] w0:=HS.init w0 noM
  have hsp:Sp o l.length:=hR.sp (sz:=1) (zH Fw.encI_len _) (by omega)
  (refine ENT (N:=54) Tryz.func57 Tryz.ntmps57 ?_;intro a hA)
  repeat' (first|(refine QT ?_;clear hA a;intro a hA)|refine CT ?_|fail)
  refine zU (S:=Nat × Nat) (fun p a w=>(p.1≤p.2∧p.2≤l.length∧bsL l x p.1 p.2=bsI l x)∧HS w0 noM [] w∧Sl 54 [(8,.int .i64 p.2),(7,.int .i64 p.1),(6,.int .i64 l.length),(0,.slice o l.length c),(1,.int .i64 x)] a) (fun p=>p.2 - p.1)
    (fun a w=>HS w0 noM [] w∧Sl 54 [(7,.int .i64 (bsI l x)),(6,.int .i64 l.length),(0,.slice o l.length c),(1,.int .i64 x)] a) (0,l.length) ⟨⟨Nat.zero_le _,Nat.le_refl _,rfl⟩,hH,(hA.sub SBT)⟩ ?_ ?_
  · clear hA hH
    rintro ⟨i,j⟩ a w ⟨⟨hij,hj,he⟩,hH,hA⟩
    dsimp only at hij hj he hA
    by_cases hlt:i<j
    rotate_left
    · rw [bsL_end hlt] at he
      repeat' (first|(refine QT ?_;clear hA a;intro a hA)|refine CT ?_|(refine DT ?_ ?_<;>intro hc<;>try (exfalso;omega))|fail)
      rw [he] at hA
      exact ⟨hH,(hA.sub SBT)⟩
    rw [bsL_step hlt] at he
    have hh:(i+j) / 2<j:=by omega
    have hh2:i≤(i+j) / 2:=by omega
    obtain ⟨h,hhe⟩:∃h,h=(i+j) / 2:=⟨_,rfl⟩
    rw [←hhe] at he hh hh2
    have hw:=half_u (i:=i) (j:=j) (by omega)
    rw [←hhe] at hw
    repeat' (first|(refine XT ?_;apply XE;(first|(apply wL;rfl;exact hw)|(apply wL;rfl;rfl)|(apply eZ;rfl;rfl;decide;rfl)|(apply zB;rfl;rfl;omega;exact hsp)|(apply zF;rfl;refine yG hR id (vS ?_);omega));clear hA a;intro a hA)|(refine QT ?_;clear hA a;intro a hA)|(refine zJ hA rfl rfl (by decide) (zE rfl rfl rfl (Less_spec _ _ _)) ?_;clear hA;rintro _ w ⟨rfl,hk⟩ a hA;replace hH:=hH.keep hk;clear hk)|refine CT ?_|(refine DT ?_ ?_<;>intro hc<;>try (exfalso;omega))|fail)
    · rw [if_pos (by assumption)] at he
      exact ⟨(h+1,j),⟨⟨hh,hj,he⟩,hH,(hA.sub SBT)⟩,by dsimp only;omega⟩
    · rw [if_neg (by assumption)] at he
      exact ⟨(i,h),⟨⟨hh2,by dsimp only;omega,he⟩,hH,(hA.sub SBT)⟩,by dsimp only;omega⟩
  clear hA hH
  rintro a w ⟨hH,hA⟩
  repeat' (first|(refine GT ?_ ?_<;>intro hg<;>clear hA a<;>intro a hA<;>(first|exact FA|replace hg:=dTr hg|replace hg:=dFa hg|skip))|(refine XT ?_;apply XE;(first|(apply zF;rfl;refine yG hR id (vS ?_);omega)|(apply zB;rfl;rfl;omega;exact hsp));clear hA a;intro a hA)|(refine QT ?_;clear hA a;intro a hA)|(refine zJ hA rfl rfl (by decide) (zE rfl rfl rfl (isNaN_spec _ _)) ?_;clear hA;rintro _ w ⟨rfl,hk⟩ a hA;replace hH:=hH.keep hk;clear hk)|refine CT ?_|fail)
  · exact rt2 (.inl rfl) rfl hA rfl rfl ⟨by rw [bsB_t ⟨by omega,by assumption⟩],hH.kp⟩
  · exact rt2 (.inl rfl) rfl hA rfl rfl ⟨by rw [bsB_f (fun h=>(by assumption:¬l.getD (bsI l x) 0=x) h.2)],hH.kp⟩
  · exact rt2 (.inl rfl) rfl hA rfl rfl ⟨by rw [bsB_f (fun h=>(by have:=h.1;omega))],hH.kp⟩
end
theorem RsV_val {c:Cx} {x:Vl} {w:Wd} {u v:Value} {r:Rs} (hr:r= .val x w) (h:RV c x u) (hv:v= .tuple #[u,.string empS]):RsV c r v:=by rw [hr];exact ⟨u,h,hv⟩
theorem RsV_stk {c:Cx} {w:Wd} {v:Value} {r:Rs} (hr:r=stk w) (hv:v= .tuple #[.nilIface,.string empS]):RsV c r v:=RsV_val (x:=.nil) hr (by rw [RV]) hv
theorem RsV_exn {c:Cx} {s:ByteArray} {v:Value} {r:Rs} (hr:r= .exn s) (hv:v= .tuple #[.nilIface,.string s]):RsV c r v:=by rw [hr];exact hv
theorem RV_num {c:Cx} {n:Int} (h:iok n):RV c (.num n) (.iface 2 (.int .i64 n)):=by rw [RV];exact ⟨rfl,h⟩
theorem RV_txt {c:Cx} {s:ByteArray} (h:s.size≤4096):RV c (.txt s) (.iface 9 (.string s)):=by rw [RV];exact ⟨rfl,h⟩
theorem sL {s:ByteArray} {i:Nat} (h:i<(bts s).length):(bts s)[i]?=some ((bts s).getD i 0):=by
  rw [List.getD_eq_getElem?_getD,List.getElem?_eq_getElem h];rfl
theorem mD (s:ByteArray) (i:Nat):(bts s).getD i 0<256:=by
  rw [List.getD_eq_getElem?_getD]
  cases h:(bts s)[i]? with
  |none=>exact Nat.zero_lt_succ _
  |some b=>exact lC s b (List.mem_of_getElem? h)
theorem cJ (s t:ByteArray):(s++t).size=s.size+t.size:=ByteArray.size_append
section
attribute [local irreducible] Code.wp wpList Calls Ex Op1 sat bat blk cb own Go.Fw.mp Go.Fw.mpO Go.Fw.mpI Go.Fw.mpE Go.Fw.itr HS Rd Ret wkD Hp Cl Cls Exit.then Exit.inBlock Exit.noGoto bodyPost Go.Fw.flat wk2 Go.Fw.all Go.Fw.owns wpOp
attribute [local irreducible] sk mpK sko mvO xM opM Go.Fw.mset Go.Fw.mv opK w63

theorem texts_spec (w0:World) (c:Cx) (op:Int) (l:List Vl) (vs:List Value) (oL:Option Addr) (cL:Nat) (wd:Wd) (hR:Rd w0 oL vs) (hV:RVs c l vs) (hop:(op=17∧1≤l.length)∨((op=18∨op=19)∧2≤l.length)) :
    Ret Tryz.prog 115 #[.int .i64 op,.slice oL vs.length cL] w0 (fun v w=>RsV c (wG op l wd) v∧Kp w0 noM w):=by
  have hH:HS w0 noM [] w0:=HS.init w0 noM
  have hsp:Sp oL vs.length:=hR.sp (sz:=1) (by omega) (by omega)
  have hvl:=hV.len
  obtain ⟨v0,hv0,hx0⟩:=hV.get0 (i:=0) (by omega)
  (refine ENT (N:=73) Tryz.func115 Tryz.ntmps115 ?_;intro a hA)
  repeat' (first|(refine XT ?_;apply XE;(first|(apply zC;rfl;rfl;decide;omega;exact hsp)|(apply zF;rfl;exact yG hR id hv0));clear hA a;intro a hA)|(refine QT ?_;clear hA a;intro a hA)|refine CT ?_|fail)
  rcases hx0.asTxt with ⟨s,hs,rfl,hss⟩| ⟨hs,hn⟩
  rotate_left
  · repeat' (first|(refine XT ?_;apply XE;(first|(apply yO;rfl;exact hn));clear hA a;intro a hA)|(refine QT ?_;clear hA a;intro a hA)|refine CT ?_|fail)
    exact rt2 (.inl rfl) rfl hA rfl rfl ⟨RsV_stk (by unfold wG;rw [hs]) rfl,hH.kp⟩
  have hbl:(bts s).length≤4096:=by rw [wI];exact hss
  repeat' (first|(refine XT ?_;apply XE;(first|(apply zW;rfl)|(apply xK;rfl)|(apply yJ;rfl));clear hA a;intro a hA)|(refine QT ?_;clear hA a;intro a hA)|refine CT ?_|(refine DT ?_ ?_<;>intro hc<;>try (exfalso;omega))|fail)
  · refine rt2 (.inl rfl) rfl hA rfl rfl ⟨RsV_val (x:=.num (bts s).length) (w:=wd) (by unfold wG;rw [hs];exact if_pos (by assumption)) (RV_num ⟨by omega,by omega⟩) rfl,hH.kp⟩
  · obtain ⟨v1,hv1,hx1⟩:=hV.get0 (i:=1) (by omega)
    have h19:op=19:=by assumption
    have e19:wG op l wd=(match asTxt (zS l 1) with|some t=>if 4096<(bts s).length+(bts t).length then .exn rX else .val (.txt (s++t)) wd|none=>stk wd):=by
      unfold wG;rw [hs];dsimp only;rw [if_neg (by omega),if_pos h19];rfl
    repeat' (first|(refine XT ?_;apply XE;(first|(apply zF;rfl;exact yG hR id hv1));clear hA a;intro a hA)|(refine QT ?_;clear hA a;intro a hA)|fail)
    rcases hx1.asTxt with ⟨t,ht,rfl,hts⟩| ⟨ht,hn⟩
    rotate_left
    · repeat' (first|(refine XT ?_;apply XE;(first|(apply yO;rfl;exact hn));clear hA a;intro a hA)|(refine QT ?_;clear hA a;intro a hA)|refine CT ?_|fail)
      exact rt2 (.inl rfl) rfl hA rfl rfl ⟨RsV_stk (w:=wd) (by rw [e19,ht]) rfl,hH.kp⟩
    have hbt:(bts t).length≤4096:=by rw [wI];exact hts
    rw [ht] at e19
    dsimp only at e19
    repeat' (first|(refine XT ?_;apply XE;(first|(apply zW;rfl)|(apply xK;rfl)|(apply yJ;rfl)|(apply sI;rfl;rfl;rw [←wI,←wI];omega));clear hA a;intro a hA)|(refine QT ?_;clear hA a;intro a hA)|refine CT ?_|(refine DT ?_ ?_<;>intro hc<;>try (exfalso;omega))|fail)
    · rw [if_pos (by omega)] at e19
      exact rt2 (.inl rfl) rfl hA rfl rfl ⟨RsV_exn e19 rfl,hH.kp⟩
    · rw [if_neg (by omega)] at e19
      refine rt2 (.inl rfl) rfl hA rfl rfl ⟨RsV_val e19 (RV_txt ?_) rfl,hH.kp⟩
      rw [cJ,←wI,←wI]
      omega
  · obtain ⟨v1,hv1,hx1⟩:=hV.get0 (i:=1) (by omega)
    have e18:wG op l wd=(match asNum (zS l 1) with|some i=>if i<0∨((bts s).length:Int)≤i then .exn uX else .val (.num ((bts s).getD i.toNat 0)) wd|none=>stk wd):=by
      unfold wG;rw [hs];dsimp only;rw [if_neg (by omega),if_neg (by omega)];rfl
    repeat' (first|(refine XT ?_;apply XE;(first|(apply zF;rfl;exact yG hR id hv1));clear hA a;intro a hA)|(refine QT ?_;clear hA a;intro a hA)|fail)
    rcases hx1.asNum with ⟨i,ht,rfl,hio⟩| ⟨ht,hn⟩
    rotate_left
    · repeat' (first|(refine XT ?_;apply XE;(first|(apply yO;rfl;exact hn));clear hA a;intro a hA)|(refine QT ?_;clear hA a;intro a hA)|refine CT ?_|fail)
      exact rt2 (.inl rfl) rfl hA rfl rfl ⟨RsV_stk (w:=wd) (by rw [e18,ht]) rfl,hH.kp⟩
    rw [ht] at e18
    dsimp only at e18
    repeat' (first|(refine GT ?_ ?_<;>intro hg<;>clear hA a<;>intro a hA<;>(first|exact FA|replace hg:=dTr hg|replace hg:=dFa hg|skip))|(refine XT ?_;apply XE;(first|(apply zW;rfl)|(apply xK;rfl));clear hA a;intro a hA)|(refine QT ?_;clear hA a;intro a hA)|refine CT ?_|(refine DT ?_ ?_<;>intro hc<;>try (exfalso;omega))|fail)
    · rw [if_pos (.inl (by omega))] at e18
      exact rt2 (.inl rfl) rfl hA rfl rfl ⟨RsV_exn e18 rfl,hH.kp⟩
    · rw [if_pos (.inr (by omega))] at e18
      exact rt2 (.inl rfl) rfl hA rfl rfl ⟨RsV_exn e18 rfl,hH.kp⟩
    have hlt:i.toNat<(bts s).length:=by omega
    have hby:=mD s i.toNat
    rw [if_neg (by omega)] at e18
    repeat' (first|(refine XT ?_;apply XE;(first|(apply xL (j:=i.toNat);rfl;rfl;omega;exact sL hlt)|(apply wL;rfl;exact wA (by unfold uA;omega))|(apply yJ;rfl));clear hA a;intro a hA)|(refine QT ?_;clear hA a;intro a hA)|refine CT ?_|fail)
    exact rt2 (.inl rfl) rfl hA rfl rfl ⟨RsV_val e18 (RV_num ⟨by omega,by omega⟩) rfl,hH.kp⟩
end
def tH {α:Type} (fr:List α) (i:Nat) (r:α):List α:=fr.take i++r::fr.drop i
theorem tV {α:Type} {fr:List α} {i:Nat} {r:α} (hi:i≤fr.length):(tH fr i r).length=fr.length+1:=by simp [tH];omega
theorem pE {α:Type} {fr:List α} {i:Nat} {r:α} (hi:i≤fr.length):fr.insertIdx i r=tH fr i r:=by
  rw [ins_eq r fr i hi]
  unfold tH
  simp
def yY (v:Value):List Value:=[v]
theorem vP (v:Value):(yY v).length=1:=rfl
theorem fJ {α:Type} (enc:α→List Value) (x:α) (l:List α):flat enc (x::l)=enc x++flat enc l:=rfl
theorem aL:∀(l:List Value),flat yY l=l
  | []=>rfl
  |v::l=>by show yY v++flat yY l=_;rw [aL l];rfl
section
attribute [local irreducible] Code.wp wpList Calls Ex Op1 sat bat blk cb own Go.Fw.mp Go.Fw.mpO Go.Fw.mpI Go.Fw.mpE Go.Fw.itr HS Rd Ret wkD Hp Cl Cls Exit.then Exit.inBlock Exit.noGoto bodyPost Go.Fw.flat wk2 Go.Fw.all Go.Fw.owns wpOp

theorem eR (w0:World) (M:Nat→Prop) (o ov:Option Addr) (c i:Nat) (fr:List Int) (r:Int) (hH:HS w0 M [own 2 1 o fr.length c (flat Fw.encI fr),own 2 1 ov 1 1 (Fw.encI r)] w0) (hi:i≤fr.length) (hl:fr.length≤1048576) (h1r:(Fw.encI r).all (·.oneCell')=true) (hall:∀l,l=fr.drop i→(flat Fw.encI l).all (·.oneCell')=true) :
    Ret Tryz.prog 95 #[.slice o fr.length c,.int .i64 i,.slice ov 1 1] w0
      (fun v w=>∃o' c',v= .slice o' (fr.length+1) c'∧HS w0 M [own 2 1 o' (fr.length+1) c' (flat Fw.encI (tH fr i r))] w):=by
  have hle:=hH.own_le (o:=o) (by exact MEMT)
  obtain ⟨bv,spv,rfl,-,-,hv3,hv4,hHv⟩:=(hH.perm (.swap _ _ _)).own_block (by omega)
  have hspv:spv=[]:=List.length_eq_zero_iff.1 (by rw [Fw.encI_len] at hv4;omega)
  subst hspv
  rw [List.append_nil] at hHv
  replace hH:=hHv.perm (.swap _ _ _)
  clear hHv
  by_cases hin:i=fr.length
  · subst hin
    have hrv:Rd w0 (some (bat bv 0)) (Fw.encI r):=by
      have:=hH.cb_rd (b:=bv) (by exact MEMT) 0
      rwa [List.drop_zero] at this
    (refine ENT (N:=95) Tryz.func95 Tryz.ntmps95 ?_;intro a hA)
    repeat' (first|(refine XT ?_;apply XE;(first|(apply sH (k:=fr.length);rfl;rfl;rfl;omega));clear hA a;intro a hA)|(refine QT ?_;clear hA a;intro a hA)|(apply zJ hA rfl rfl (by decide);apply yE;rfl;rfl;exact hH;exact MEMT;exact hrv;exact Fw.encI_len r;rfl;decide;exact h1r;(unfold maxLen;omega);omega;clear hA;rintro _ w ⟨oN,cN,rfl,hH2⟩ a hA;clear hH;have hH:=hH2 _ (by (repeat constructor));clear hH2)|refine CT ?_|(refine DT ?_ ?_<;>intro hc<;>try (exfalso;omega))|fail)
    have e:flat Fw.encI fr++Fw.encI r=flat Fw.encI (tH fr fr.length r):=by
      unfold tH
      rw [List.take_length,List.drop_length,←vQ]
    rw [e] at hH
    exact rt1 (.inl rfl) rfl hA rfl ⟨_,_,rfl,hH.head⟩
  have hlt:i<fr.length:=by omega
  obtain ⟨b,spare,rfl,h1,h2,h3,h4,hH⟩:=hH.own_block (by omega)
  have hne:=hH.cb_ne
  have hlen:(flat Fw.encI fr++spare).length=c*1:=by rw [List.length_append];exact h4
  have hA_:(flat Fw.encI (fr.take i)).length=i*1:=by rw [zH Fw.encI_len,List.length_take];omega
  have hB_:(flat Fw.encI (fr.drop i)).length=(fr.length - i)*1:=by rw [zH Fw.encI_len,List.length_drop]
  have hsplit:flat Fw.encI fr=flat Fw.encI (fr.take i)++flat Fw.encI (fr.drop i):=by rw [←wY,List.take_append_drop]
  have hins:flat Fw.encI (tH fr i r)=flat Fw.encI (fr.take i)++(Fw.encI r++flat Fw.encI (fr.drop i)):=by
    unfold tH
    rw [wY,fJ]
  have hq1:(if c=i then 0 else 0+i*1)=i*1:=by rw [if_neg (by omega),Nat.zero_add]
  by_cases hroom:fr.length+1≤c
  rotate_left
  · -- into a new block
    (refine ENT (N:=95) Tryz.func95 Tryz.ntmps95 ?_;intro a hA)
    repeat' (first|(refine XT ?_;apply XE;(first|(apply yU (k:=i) (q:=i*1);rfl;rfl;rfl;omega;exact hq1)|(apply uB (k:=i);rfl;rfl;rfl;omega)|(apply tN;rfl));clear hA a;intro a hA)|(refine QT ?_;clear hA a;intro a hA)|refine CT ?_|(refine DT ?_ ?_<;>intro hc<;>try (exfalso;omega))|fail)
    have holds:∀j u,(flat Fw.encI (fr.take i))[j]?=some u→w0.cell? ((bat b 0).add j)=some u:=by
      intro j u hj
      have:=hH.cb_news (b:=b) (k:=0) (m:=(flat Fw.encI (fr.take i)).length) (List.mem_cons_self ..) j u
      have e5:((flat Fw.encI fr++spare).drop 0).take (flat Fw.encI (fr.take i)).length=flat Fw.encI (fr.take i):=by
        rw [List.drop_zero,hsplit,List.append_assoc,List.take_append_of_le_length (Nat.le_refl _),List.take_length]
      rw [e5] at this
      exact this hj
    repeat' (first|(refine QT ?_;clear hA a;intro a hA)|(apply zJ hA rfl rfl (by decide);apply nI (k:=fr.length+1 - i);rfl;rfl;omega;exact hH;exact holds;exact hA_;rfl;omega;omega;(unfold maxLen;omega);omega;omega;clear hA;rintro _ w ⟨o2,c2,rest,rfl,hrest,hH2⟩ a hA)|fail)
    have en:i+(fr.length+1 - i)=fr.length+1:=by omega
    rw [en] at hA hH2
    have hle2:=hH2.own_le (o:=o2) (by exact MEMT)
    obtain ⟨b2,sp2,rfl,k1,k2,k3,k4,hH3⟩:=hH2.own_block (by omega)
    clear hH hH2
    have hH:=hH3
    clear hH3
    have hq3:(if c2=i then 0 else 0+i*1)=i*1:=by rw [if_neg (by omega),Nat.zero_add]
    have hq4:(if c2=i+1 then 0 else 0+(i+1)*1)=(i+1)*1:=by rw [if_neg (by omega),Nat.zero_add]
    have hrv:∀j u,(Fw.encI r)[j]?=some u→w.cell? ((bat bv 0).add j)=some u:=by
      intro j u hj
      have:=hH.cb_news (b:=bv) (k:=0) (m:=(Fw.encI r).length) (by exact MEMT) j u
      rw [List.drop_zero,List.take_length] at this
      exact this hj
    have hl1:(Fw.encI r).length=Nat.min 1 (fr.length+1 - i)*1:=by rw [show Nat.min 1 (fr.length+1 - i)=1 by show min 1 (fr.length+1 - i)=1;omega];rfl
    have hf1:i*1+(Fw.encI r).length≤(flat Fw.encI (fr.take i)++rest++sp2).length:=by
      rw [List.length_append,List.length_append,hA_,hrest,Fw.encI_len];omega
    repeat' (first|(refine XT ?_;apply XE;(first|(apply yU (k:=i) (q:=i*1);rfl;rfl;rfl;omega;exact hq3));clear hA a;intro a hA)|(refine QT ?_;clear hA a;intro a hA)|(apply zJ hA rfl rfl (by decide);apply vM;rfl;rfl;exact hH;exact hrv;exact hl1;exact h1r;exact hf1;(repeat constructor);clear hA hH;rintro _ w ⟨rfl,hH⟩ a hA)|refine CT ?_|fail)
    have hB5:((flat Fw.encI fr++spare).drop (i*1)).take (flat Fw.encI (fr.drop i)).length=flat Fw.encI (fr.drop i):=by
      have:=@nK (flat Fw.encI (fr.take i)) [] (flat Fw.encI (fr.drop i)) spare
      rw [List.length_nil,Nat.add_zero,hA_,List.nil_append,←List.append_assoc,←hsplit] at this
      exact this
    have hl2:(flat Fw.encI (fr.drop i)).length=Nat.min (fr.length - i) (fr.length+1 - (i+1))*1:=by
      rw [hB_,show Nat.min (fr.length - i) (fr.length+1 - (i+1))=fr.length - i by show min (fr.length - i) (fr.length+1 - (i+1))=_;omega]
    have hpl:(put (flat Fw.encI (fr.take i)++rest++sp2) (i*1) (Fw.encI r)).length=c2*1:=by rw [vW hf1,List.length_append];exact k4
    have hf2:(i+1)*1+(flat Fw.encI (fr.drop i)).length≤(put (flat Fw.encI (fr.take i)++rest++sp2) (i*1) (Fw.encI r)).length:=by rw [hpl,hB_];omega
    have hone:(flat Fw.encI (fr.drop i)).all (·.oneCell')=true:=hall _ rfl
    (refine zO [(0,2),(1,2),(2,2),(3,2),(4,2),(5,2),(6,2),(7,2),(8,0)] mixed (by decide +kernel) hH.drop_ ?_;replace hH:=hH.drew)
    have hrB:∀j u,(flat Fw.encI (fr.drop i))[j]?=some u→w.drew.cell? ((bat b (i*1)).add j)=some u:=by
      intro j u hj
      have:=hH.cb_news (b:=b) (k:=i*1) (m:=(flat Fw.encI (fr.drop i)).length) (by exact MEMT) j u
      rw [hB5] at this
      exact this hj
    repeat' (first|(refine XT ?_;apply XE;(first|(apply yU (k:=i+1) (q:=(i+1)*1);rfl;rfl;rfl;omega;exact hq4)|(apply yU (k:=i) (q:=i*1);rfl;rfl;rfl;omega;exact hq1));clear hA a;intro a hA)|(refine QT ?_;clear hA a;intro a hA)|refine CT ?_|(apply yC hA rfl rfl rfl (by decide);apply vM;rfl;rfl;exact hH;exact hrB;exact hl2;exact hone;exact hf2;(repeat constructor);clear hA hH;rintro _ w ⟨rfl,hH⟩;refine ⟨STT,?_⟩;intro a hA)|fail)
    have hrest2:rest.length=1+(fr.length - i)*1:=by rw [hrest];omega
    have e7:put (put (flat Fw.encI (fr.take i)++rest++sp2) (i*1) (Fw.encI r)) ((i+1)*1) (flat Fw.encI (fr.drop i))=flat Fw.encI (tH fr i r)++sp2:=by
      have e8:flat Fw.encI (fr.take i)++rest++sp2=flat Fw.encI (fr.take i)++(rest.take 1++(rest.drop 1++sp2)):=by
        rw [←List.append_assoc (rest.take 1),List.take_append_drop,List.append_assoc]
      rw [e8,rK hA_.symm (by rw [Fw.encI_len,List.length_take];omega),←List.append_assoc (flat Fw.encI (fr.take i)),rK (by rw [List.length_append,hA_,Fw.encI_len];omega) (by rw [hB_,List.length_drop];omega),hins]
      simp
    rw [e7] at hH
    have hil:(flat Fw.encI (tH fr i r)).length=(fr.length+1)*1:=by rw [zH Fw.encI_len,tV hi]
    refine rt1 (.inl rfl) rfl hA rfl ⟨_,_,rfl,(hH.head).block_own hil k1 k2 ?_⟩
    rw [hil,←k3]
    exact k4
  · (refine ENT (N:=95) Tryz.func95 Tryz.ntmps95 ?_;intro a hA)
    repeat' (first|(refine XT ?_;apply XE;(first|(apply yU (k:=i) (q:=i*1);rfl;rfl;rfl;omega;exact hq1)|(apply uB (k:=fr.length+1);rfl;rfl;rfl;omega)|(apply tN;rfl));clear hA a;intro a hA)|(refine QT ?_;clear hA a;intro a hA)|refine CT ?_|(refine DT ?_ ?_<;>intro hc<;>try (exfalso;omega))|fail)
    have hsp2:1≤spare.length:=by rw [List.length_append,h3] at hlen;omega
    have hq2:(if c=i+1 then 0 else 0+(i+1)*1)=(i+1)*1:=by rw [if_neg (by omega),Nat.zero_add]
    have hc2:(flat Fw.encI fr++spare).length≠0:=by rw [hlen];omega
    repeat' (first|(refine XT ?_;apply XE;(first|(apply yU (k:=i+1) (q:=(i+1)*1);rfl;rfl;rfl;omega;exact hq2));clear hA a;intro a hA)|(refine QT ?_;clear hA a;intro a hA)|(apply zJ hA rfl rfl (by decide);apply lM (t:=48) (tR:=4) Tryz.func118 (by kernel_rfl) (by kernel_rfl) (by kernel_rfl) (by kernel_rfl);rfl;rfl;exact hH;exact MEMT;exact MEMT;exact Ne.symm hne;exact hc2;clear hA;rintro _ w2 ⟨rfl,hw2⟩ a hA;rw [hw2];clear hw2 w2)|refine CT ?_|fail)
    have hB5:((flat Fw.encI fr++spare).drop (i*1)).take (flat Fw.encI (fr.drop i)).length=flat Fw.encI (fr.drop i):=by
      have:=@nK (flat Fw.encI (fr.take i)) [] (flat Fw.encI (fr.drop i)) spare
      rw [List.length_nil,Nat.add_zero,hA_,List.nil_append,←List.append_assoc,←hsplit] at this
      exact this
    have hl2:(flat Fw.encI (fr.drop i)).length=Nat.min (fr.length+1 - i) (fr.length+1 - (i+1))*1:=by
      rw [hB_,show Nat.min (fr.length+1 - i) (fr.length+1 - (i+1))=fr.length - i by show min (fr.length+1 - i) (fr.length+1 - (i+1))=_;omega]
    have hf2:(i+1)*1+(flat Fw.encI (fr.drop i)).length≤(flat Fw.encI fr++spare).length:=by rw [hlen,hB_];omega
    have hone:(flat Fw.encI (fr.drop i)).all (·.oneCell')=true:=hall _ rfl
    (refine zO [(0,2),(1,2),(2,2),(3,2),(4,2),(5,2),(6,2),(7,2),(8,0)] mixed (by decide +kernel) hH.drop_ ?_;replace hH:=hH.drew)
    have hrB:∀j u,(flat Fw.encI (fr.drop i))[j]?=some u→w0.drew.cell? ((bat b (i*1)).add j)=some u:=by
      intro j u hj
      have:=hH.cb_news (b:=b) (k:=i*1) (m:=(flat Fw.encI (fr.drop i)).length) (by exact MEMT) j u
      rw [hB5] at this
      exact this hj
    repeat' (first|(refine XT ?_;apply XE;(first|(apply yU (k:=i+1) (q:=(i+1)*1);rfl;rfl;rfl;omega;exact hq2)|(apply yU (k:=i) (q:=i*1);rfl;rfl;rfl;omega;exact hq1));clear hA a;intro a hA)|(refine QT ?_;clear hA a;intro a hA)|refine CT ?_|(apply yC hA rfl rfl rfl (by decide);apply vM;rfl;rfl;exact hH;exact hrB;exact hl2;exact hone;exact hf2;(repeat constructor);clear hA hH;rintro _ w ⟨rfl,hH⟩;refine ⟨STT,?_⟩;intro a hA)|fail)
    have hrv:∀j u,(Fw.encI r)[j]?=some u→w.cell? ((bat bv 0).add j)=some u:=by
      intro j u hj
      have:=hH.cb_news (b:=bv) (k:=0) (m:=(Fw.encI r).length) (by exact MEMT) j u
      rw [List.drop_zero,List.take_length] at this
      exact this hj
    have hl1:(Fw.encI r).length=Nat.min 1 (fr.length+1 - i)*1:=by rw [show Nat.min 1 (fr.length+1 - i)=1 by show min 1 (fr.length+1 - i)=1;omega];rfl
    have hf1:i*1+(Fw.encI r).length≤(put (flat Fw.encI fr++spare) ((i+1)*1) (flat Fw.encI (fr.drop i))).length:=by
      rw [vW hf2,hlen,Fw.encI_len];omega
    repeat' (first|(refine QT ?_;clear hA a;intro a hA)|(apply zJ hA rfl rfl (by decide);apply vM;rfl;rfl;exact hH;exact hrv;exact hl1;exact h1r;exact hf1;(repeat constructor);clear hA hH;rintro _ w ⟨rfl,hH⟩ a hA)|refine CT ?_|fail)
    have e7:put (put (flat Fw.encI fr++spare) ((i+1)*1) (flat Fw.encI (fr.drop i))) (i*1) (Fw.encI r)=flat Fw.encI (tH fr i r)++spare.drop 1:=by
      have e8:flat Fw.encI fr++spare=flat Fw.encI (fr.take i)++(flat Fw.encI (fr.drop i)++(spare.take 1++spare.drop 1)):=by
        rw [List.take_append_drop,←List.append_assoc,←hsplit]
      have e9:=@fE (flat Fw.encI (fr.take i)) (Fw.encI r) (flat Fw.encI (fr.drop i)) (spare.take 1) (spare.drop 1) (by rw [Fw.encI_len,List.length_take];omega)
      rw [hA_,Fw.encI_len,show i*1+1=(i+1)*1 by omega] at e9
      rw [e8,e9,hins]
    rw [e7] at hH
    have hil:(flat Fw.encI (tH fr i r)).length=(fr.length+1)*1:=by rw [zH Fw.encI_len,tV hi]
    refine rt1 (.inl rfl) rfl hA rfl ⟨_,_,rfl,(hH.head).block_own hil hroom h2 ?_⟩
    rw [hil,List.length_drop]
    omega
end
section
attribute [local irreducible] Code.wp wpList Calls Ex Op1 sat bat blk cb own Go.Fw.mp Go.Fw.mpO Go.Fw.mpI Go.Fw.mpE Go.Fw.itr HS Rd Ret wkD Hp Cl Cls Exit.then Exit.inBlock Exit.noGoto bodyPost Go.Fw.flat wk2 Go.Fw.all Go.Fw.owns wpOp

theorem eQ (w0:World) (M:Nat→Prop) (o ov:Option Addr) (c i:Nat) (fr:List Value) (r:Value) (hH:HS w0 M [own 137 1 o fr.length c (flat yY fr),own 137 1 ov 1 1 (yY r)] w0) (hi:i≤fr.length) (hl:fr.length≤1048576) (h1r:(yY r).all (·.oneCell')=true) (hall:∀l,l=fr.drop i→(flat yY l).all (·.oneCell')=true) :
    Ret Tryz.prog 96 #[.slice o fr.length c,.int .i64 i,.slice ov 1 1] w0
      (fun v w=>∃o' c',v= .slice o' (fr.length+1) c'∧HS w0 M [own 137 1 o' (fr.length+1) c' (flat yY (tH fr i r))] w):=by
  have hle:=hH.own_le (o:=o) (by exact MEMT)
  obtain ⟨bv,spv,rfl,-,-,hv3,hv4,hHv⟩:=(hH.perm (.swap _ _ _)).own_block (by omega)
  have hspv:spv=[]:=List.length_eq_zero_iff.1 (by rw [vP] at hv4;omega)
  subst hspv
  rw [List.append_nil] at hHv
  replace hH:=hHv.perm (.swap _ _ _)
  clear hHv
  by_cases hin:i=fr.length
  · subst hin
    have hrv:Rd w0 (some (bat bv 0)) (yY r):=by
      have:=hH.cb_rd (b:=bv) (by exact MEMT) 0
      rwa [List.drop_zero] at this
    (refine ENT (N:=95) Tryz.func96 Tryz.ntmps96 ?_;intro a hA)
    repeat' (first|(refine XT ?_;apply XE;(first|(apply sH (k:=fr.length);rfl;rfl;rfl;omega));clear hA a;intro a hA)|(refine QT ?_;clear hA a;intro a hA)|(apply zJ hA rfl rfl (by decide);apply yE;rfl;rfl;exact hH;exact MEMT;exact hrv;exact vP r;rfl;decide;exact h1r;(unfold maxLen;omega);omega;clear hA;rintro _ w ⟨oN,cN,rfl,hH2⟩ a hA;clear hH;have hH:=hH2 _ (by (repeat constructor));clear hH2)|refine CT ?_|(refine DT ?_ ?_<;>intro hc<;>try (exfalso;omega))|fail)
    have e:flat yY fr++yY r=flat yY (tH fr fr.length r):=by
      unfold tH
      rw [List.take_length,List.drop_length,←vQ]
    rw [e] at hH
    exact rt1 (.inl rfl) rfl hA rfl ⟨_,_,rfl,hH.head⟩
  have hlt:i<fr.length:=by omega
  obtain ⟨b,spare,rfl,h1,h2,h3,h4,hH⟩:=hH.own_block (by omega)
  have hne:=hH.cb_ne
  have hlen:(flat yY fr++spare).length=c*1:=by rw [List.length_append];exact h4
  have hA_:(flat yY (fr.take i)).length=i*1:=by rw [zH vP,List.length_take];omega
  have hB_:(flat yY (fr.drop i)).length=(fr.length - i)*1:=by rw [zH vP,List.length_drop]
  have hsplit:flat yY fr=flat yY (fr.take i)++flat yY (fr.drop i):=by rw [←wY,List.take_append_drop]
  have hins:flat yY (tH fr i r)=flat yY (fr.take i)++(yY r++flat yY (fr.drop i)):=by
    unfold tH
    rw [wY,fJ]
  have hq1:(if c=i then 0 else 0+i*1)=i*1:=by rw [if_neg (by omega),Nat.zero_add]
  by_cases hroom:fr.length+1≤c
  rotate_left
  · -- into a new block
    (refine ENT (N:=95) Tryz.func96 Tryz.ntmps96 ?_;intro a hA)
    repeat' (first|(refine XT ?_;apply XE;(first|(apply yU (k:=i) (q:=i*1);rfl;rfl;rfl;omega;exact hq1)|(apply uB (k:=i);rfl;rfl;rfl;omega)|(apply tN;rfl));clear hA a;intro a hA)|(refine QT ?_;clear hA a;intro a hA)|refine CT ?_|(refine DT ?_ ?_<;>intro hc<;>try (exfalso;omega))|fail)
    have holds:∀j u,(flat yY (fr.take i))[j]?=some u→w0.cell? ((bat b 0).add j)=some u:=by
      intro j u hj
      have:=hH.cb_news (b:=b) (k:=0) (m:=(flat yY (fr.take i)).length) (List.mem_cons_self ..) j u
      have e5:((flat yY fr++spare).drop 0).take (flat yY (fr.take i)).length=flat yY (fr.take i):=by
        rw [List.drop_zero,hsplit,List.append_assoc,List.take_append_of_le_length (Nat.le_refl _),List.take_length]
      rw [e5] at this
      exact this hj
    repeat' (first|(refine QT ?_;clear hA a;intro a hA)|(apply zJ hA rfl rfl (by decide);apply nI (k:=fr.length+1 - i);rfl;rfl;omega;exact hH;exact holds;exact hA_;rfl;omega;omega;(unfold maxLen;omega);omega;omega;clear hA;rintro _ w ⟨o2,c2,rest,rfl,hrest,hH2⟩ a hA)|fail)
    have en:i+(fr.length+1 - i)=fr.length+1:=by omega
    rw [en] at hA hH2
    have hle2:=hH2.own_le (o:=o2) (by exact MEMT)
    obtain ⟨b2,sp2,rfl,k1,k2,k3,k4,hH3⟩:=hH2.own_block (by omega)
    clear hH hH2
    have hH:=hH3
    clear hH3
    have hq3:(if c2=i then 0 else 0+i*1)=i*1:=by rw [if_neg (by omega),Nat.zero_add]
    have hq4:(if c2=i+1 then 0 else 0+(i+1)*1)=(i+1)*1:=by rw [if_neg (by omega),Nat.zero_add]
    have hrv:∀j u,(yY r)[j]?=some u→w.cell? ((bat bv 0).add j)=some u:=by
      intro j u hj
      have:=hH.cb_news (b:=bv) (k:=0) (m:=(yY r).length) (by exact MEMT) j u
      rw [List.drop_zero,List.take_length] at this
      exact this hj
    have hl1:(yY r).length=Nat.min 1 (fr.length+1 - i)*1:=by rw [show Nat.min 1 (fr.length+1 - i)=1 by show min 1 (fr.length+1 - i)=1;omega];rfl
    have hf1:i*1+(yY r).length≤(flat yY (fr.take i)++rest++sp2).length:=by
      rw [List.length_append,List.length_append,hA_,hrest,vP];omega
    repeat' (first|(refine XT ?_;apply XE;(first|(apply yU (k:=i) (q:=i*1);rfl;rfl;rfl;omega;exact hq3));clear hA a;intro a hA)|(refine QT ?_;clear hA a;intro a hA)|(apply zJ hA rfl rfl (by decide);apply vM;rfl;rfl;exact hH;exact hrv;exact hl1;exact h1r;exact hf1;(repeat constructor);clear hA hH;rintro _ w ⟨rfl,hH⟩ a hA)|refine CT ?_|fail)
    have hB5:((flat yY fr++spare).drop (i*1)).take (flat yY (fr.drop i)).length=flat yY (fr.drop i):=by
      have:=@nK (flat yY (fr.take i)) [] (flat yY (fr.drop i)) spare
      rw [List.length_nil,Nat.add_zero,hA_,List.nil_append,←List.append_assoc,←hsplit] at this
      exact this
    have hl2:(flat yY (fr.drop i)).length=Nat.min (fr.length - i) (fr.length+1 - (i+1))*1:=by
      rw [hB_,show Nat.min (fr.length - i) (fr.length+1 - (i+1))=fr.length - i by show min (fr.length - i) (fr.length+1 - (i+1))=_;omega]
    have hpl:(put (flat yY (fr.take i)++rest++sp2) (i*1) (yY r)).length=c2*1:=by rw [vW hf1,List.length_append];exact k4
    have hf2:(i+1)*1+(flat yY (fr.drop i)).length≤(put (flat yY (fr.take i)++rest++sp2) (i*1) (yY r)).length:=by rw [hpl,hB_];omega
    have hone:(flat yY (fr.drop i)).all (·.oneCell')=true:=hall _ rfl
    (refine zO [(0,2),(1,2),(2,2),(3,2),(4,2),(5,2),(6,2),(7,2),(8,0)] mixed (by decide +kernel) hH.drop_ ?_;replace hH:=hH.drew)
    have hrB:∀j u,(flat yY (fr.drop i))[j]?=some u→w.drew.cell? ((bat b (i*1)).add j)=some u:=by
      intro j u hj
      have:=hH.cb_news (b:=b) (k:=i*1) (m:=(flat yY (fr.drop i)).length) (by exact MEMT) j u
      rw [hB5] at this
      exact this hj
    repeat' (first|(refine XT ?_;apply XE;(first|(apply yU (k:=i+1) (q:=(i+1)*1);rfl;rfl;rfl;omega;exact hq4)|(apply yU (k:=i) (q:=i*1);rfl;rfl;rfl;omega;exact hq1));clear hA a;intro a hA)|(refine QT ?_;clear hA a;intro a hA)|refine CT ?_|(apply yC hA rfl rfl rfl (by decide);apply vM;rfl;rfl;exact hH;exact hrB;exact hl2;exact hone;exact hf2;(repeat constructor);clear hA hH;rintro _ w ⟨rfl,hH⟩;refine ⟨STT,?_⟩;intro a hA)|fail)
    have hrest2:rest.length=1+(fr.length - i)*1:=by rw [hrest];omega
    have e7:put (put (flat yY (fr.take i)++rest++sp2) (i*1) (yY r)) ((i+1)*1) (flat yY (fr.drop i))=flat yY (tH fr i r)++sp2:=by
      have e8:flat yY (fr.take i)++rest++sp2=flat yY (fr.take i)++(rest.take 1++(rest.drop 1++sp2)):=by
        rw [←List.append_assoc (rest.take 1),List.take_append_drop,List.append_assoc]
      rw [e8,rK hA_.symm (by rw [vP,List.length_take];omega),←List.append_assoc (flat yY (fr.take i)),rK (by rw [List.length_append,hA_,vP];omega) (by rw [hB_,List.length_drop];omega),hins]
      simp
    rw [e7] at hH
    have hil:(flat yY (tH fr i r)).length=(fr.length+1)*1:=by rw [zH vP,tV hi]
    refine rt1 (.inl rfl) rfl hA rfl ⟨_,_,rfl,(hH.head).block_own hil k1 k2 ?_⟩
    rw [hil,←k3]
    exact k4
  · (refine ENT (N:=95) Tryz.func96 Tryz.ntmps96 ?_;intro a hA)
    repeat' (first|(refine XT ?_;apply XE;(first|(apply yU (k:=i) (q:=i*1);rfl;rfl;rfl;omega;exact hq1)|(apply uB (k:=fr.length+1);rfl;rfl;rfl;omega)|(apply tN;rfl));clear hA a;intro a hA)|(refine QT ?_;clear hA a;intro a hA)|refine CT ?_|(refine DT ?_ ?_<;>intro hc<;>try (exfalso;omega))|fail)
    have hsp2:1≤spare.length:=by rw [List.length_append,h3] at hlen;omega
    have hq2:(if c=i+1 then 0 else 0+(i+1)*1)=(i+1)*1:=by rw [if_neg (by omega),Nat.zero_add]
    have hc2:(flat yY fr++spare).length≠0:=by rw [hlen];omega
    repeat' (first|(refine XT ?_;apply XE;(first|(apply yU (k:=i+1) (q:=(i+1)*1);rfl;rfl;rfl;omega;exact hq2));clear hA a;intro a hA)|(refine QT ?_;clear hA a;intro a hA)|(apply zJ hA rfl rfl (by decide);apply lM (t:=88) (tR:=4) Tryz.func120 (by kernel_rfl) (by kernel_rfl) (by kernel_rfl) (by kernel_rfl);rfl;rfl;exact hH;exact MEMT;exact MEMT;exact Ne.symm hne;exact hc2;clear hA;rintro _ w2 ⟨rfl,hw2⟩ a hA;rw [hw2];clear hw2 w2)|refine CT ?_|fail)
    have hB5:((flat yY fr++spare).drop (i*1)).take (flat yY (fr.drop i)).length=flat yY (fr.drop i):=by
      have:=@nK (flat yY (fr.take i)) [] (flat yY (fr.drop i)) spare
      rw [List.length_nil,Nat.add_zero,hA_,List.nil_append,←List.append_assoc,←hsplit] at this
      exact this
    have hl2:(flat yY (fr.drop i)).length=Nat.min (fr.length+1 - i) (fr.length+1 - (i+1))*1:=by
      rw [hB_,show Nat.min (fr.length+1 - i) (fr.length+1 - (i+1))=fr.length - i by show min (fr.length+1 - i) (fr.length+1 - (i+1))=_;omega]
    have hf2:(i+1)*1+(flat yY (fr.drop i)).length≤(flat yY fr++spare).length:=by rw [hlen,hB_];omega
    have hone:(flat yY (fr.drop i)).all (·.oneCell')=true:=hall _ rfl
    (refine zO [(0,2),(1,2),(2,2),(3,2),(4,2),(5,2),(6,2),(7,2),(8,0)] mixed (by decide +kernel) hH.drop_ ?_;replace hH:=hH.drew)
    have hrB:∀j u,(flat yY (fr.drop i))[j]?=some u→w0.drew.cell? ((bat b (i*1)).add j)=some u:=by
      intro j u hj
      have:=hH.cb_news (b:=b) (k:=i*1) (m:=(flat yY (fr.drop i)).length) (by exact MEMT) j u
      rw [hB5] at this
      exact this hj
    repeat' (first|(refine XT ?_;apply XE;(first|(apply yU (k:=i+1) (q:=(i+1)*1);rfl;rfl;rfl;omega;exact hq2)|(apply yU (k:=i) (q:=i*1);rfl;rfl;rfl;omega;exact hq1));clear hA a;intro a hA)|(refine QT ?_;clear hA a;intro a hA)|refine CT ?_|(apply yC hA rfl rfl rfl (by decide);apply vM;rfl;rfl;exact hH;exact hrB;exact hl2;exact hone;exact hf2;(repeat constructor);clear hA hH;rintro _ w ⟨rfl,hH⟩;refine ⟨STT,?_⟩;intro a hA)|fail)
    have hrv:∀j u,(yY r)[j]?=some u→w.cell? ((bat bv 0).add j)=some u:=by
      intro j u hj
      have:=hH.cb_news (b:=bv) (k:=0) (m:=(yY r).length) (by exact MEMT) j u
      rw [List.drop_zero,List.take_length] at this
      exact this hj
    have hl1:(yY r).length=Nat.min 1 (fr.length+1 - i)*1:=by rw [show Nat.min 1 (fr.length+1 - i)=1 by show min 1 (fr.length+1 - i)=1;omega];rfl
    have hf1:i*1+(yY r).length≤(put (flat yY fr++spare) ((i+1)*1) (flat yY (fr.drop i))).length:=by
      rw [vW hf2,hlen,vP];omega
    repeat' (first|(refine QT ?_;clear hA a;intro a hA)|(apply zJ hA rfl rfl (by decide);apply vM;rfl;rfl;exact hH;exact hrv;exact hl1;exact h1r;exact hf1;(repeat constructor);clear hA hH;rintro _ w ⟨rfl,hH⟩ a hA)|refine CT ?_|fail)
    have e7:put (put (flat yY fr++spare) ((i+1)*1) (flat yY (fr.drop i))) (i*1) (yY r)=flat yY (tH fr i r)++spare.drop 1:=by
      have e8:flat yY fr++spare=flat yY (fr.take i)++(flat yY (fr.drop i)++(spare.take 1++spare.drop 1)):=by
        rw [List.take_append_drop,←List.append_assoc,←hsplit]
      have e9:=@fE (flat yY (fr.take i)) (yY r) (flat yY (fr.drop i)) (spare.take 1) (spare.drop 1) (by rw [vP,List.length_take];omega)
      rw [hA_,vP,show i*1+1=(i+1)*1 by omega] at e9
      rw [e8,e9,hins]
    rw [e7] at hH
    have hil:(flat yY (tH fr i r)).length=(fr.length+1)*1:=by rw [zH vP,tV hi]
    refine rt1 (.inl rfl) rfl hA rfl ⟨_,_,rfl,(hH.head).block_own hil hroom h2 ?_⟩
    rw [hil,List.length_drop]
    omega
end
theorem dT {a:Nat} (h:a≤1000000):dU .u64 (a:Int) 4294967295=(a:Int):=by
  unfold dU
  have e1:(BitVec.ofInt IntKind.u64.bits (a:Int) &&& BitVec.ofInt IntKind.u64.bits 4294967295).toNat=a:=by
    show (BitVec.ofInt 64 (a:Int) &&& BitVec.ofInt 64 4294967295).toNat=a
    rw [BitVec.toNat_and]
    have h1:(BitVec.ofInt 64 (a:Int)).toNat=a:=by
      rw [BitVec.toNat_ofInt]
      omega
    have h2:(BitVec.ofInt 64 4294967295).toNat=2 ^ 32 - 1:=by decide
    rw [h1,h2,Nat.and_two_pow_sub_one_eq_mod]
    omega
  rw [e1]
  exact IntWalk.u64_in _ ⟨by omega,by omega⟩
theorem fW {a:Nat} (h:a≤1000000):pR .u64 (a:Int) 32=0:=by
  unfold pR
  have:min (Int.toNat 32) IntKind.u64.bits=32:=by decide
  rw [this,Int.fdiv_eq_ediv_of_nonneg _ (by decide)]
  show (a:Int) / 4294967296=0
  omega
theorem u64n {a:Nat} (h:a≤1000000):IntKind.u64.wrap (a:Int)=a:=IntWalk.u64_in _ ⟨by omega,by omega⟩
theorem u64m {a:Nat} (h:a≤1000000):IntKind.u64.wrap (1* (a:Int))=a:=by rw [Int.one_mul];exact u64n h
theorem rd_nil {w:World} {o:Option Addr} {xs:List Value} (h:Rd w o xs) (ho:o.isNone=true):xs=[]:=by
  cases xs with
  |nil=>rfl
  |cons x l=>obtain ⟨b,off,h1⟩:=h.1 (by rw [List.length_cons];omega);rw [h1] at ho;cases ho
theorem kW (w:World) (o:Option Addr):Rd w o []:=⟨fun h=>by simp at h,fun j u h=>by simp at h⟩
theorem rd_take {w:World} {o:Option Addr} {xs:List Value} (h:Rd w o xs) (k:Nat):Rd w o (xs.take k):=⟨fun h1=>h.1 (by rw [List.length_take] at h1;omega),fun j u hj=>h.2 j u (by rw [List.getElem?_take] at hj;split at hj;exact hj;cases hj)⟩
theorem sub0 (o:Option Addr) (c sz:Nat):lT o c 0 sz=o:=by
  unfold lT
  split
  · rfl
  · cases o with
    |none=>rfl
    |some a=>simp [Addr.add]
def vT (v:Value) (m n:Nat):List Value:=List.replicate m v++List.replicate (n - m) Value.nilIface
theorem fN {v:Value} {m n:Nat} (h:m≤n):(vT v m n).length=n:=by unfold vT;simp;omega
theorem fillV_take {v:Value} {m n:Nat} (h:m≤n) (k:Nat):(vT v m n).take (min m k)=List.replicate (min m k) v:=by
  unfold vT
  rw [List.take_append_of_le_length (by simp;omega),List.take_replicate]
  congr 1
  omega
theorem fM {v:Value} {m n k:Nat} (h:m+k≤n):put (vT v m n) m (List.replicate k v)=vT v (m+k) n:=by
  unfold vT
  have e:List.replicate (n - m) Value.nilIface=List.replicate k Value.nilIface++List.replicate (n - (m+k)) Value.nilIface:=by
    rw [List.replicate_append_replicate];congr 1;omega
  rw [e,rK (by simp) (by simp),←List.append_assoc,List.replicate_append_replicate]
theorem fillV_0 (v:Value) (n:Nat):vT v 0 n=List.replicate n Value.nilIface:=by unfold vT;simp
theorem fillV_n (v:Value) (n:Nat):vT v n n=List.replicate n v:=by unfold vT;simp
theorem rep_one {v:Value} (h:v.oneCell'=true) (k:Nat):(List.replicate k v).all (·.oneCell')=true:=by simp [h]
section
attribute [local irreducible] Code.wp wpList Calls Ex Op1 sat bat blk cb own Go.Fw.mp Go.Fw.mpO Go.Fw.mpI Go.Fw.mpE Go.Fw.itr HS Rd Ret wkD Hp Cl Cls Exit.then Exit.inBlock Exit.noGoto bodyPost Go.Fw.flat wk2 Go.Fw.all Go.Fw.owns wpOp
attribute [local irreducible] sk mpK sko mvO xM opM Go.Fw.mset Go.Fw.mv opK w63 pR dU IntKind.wrap vT

theorem Mul64_spec (w0:World) (n:Nat) (hn:n≤256):Ret Tryz.prog 161 #[.int .u64 1,.int .u64 n] w0 (fun v w=>v= .tuple #[.int .u64 0,.int .u64 n]∧Kp w0 noM w):=by
  have hH:HS w0 noM [] w0:=HS.init w0 noM
  have a1:dU .u64 1 4294967295=1:=dT (a:=1) (by omega)
  have s1:pR .u64 1 32=0:=fW (a:=1) (by omega)
  have a2:=dT (a:=n) (by omega)
  have s2:=fW (a:=n) (by omega)
  have a0:dU .u64 0 4294967295=0:=dT (a:=0) (by omega)
  have s0:pR .u64 0 32=0:=fW (a:=0) (by omega)
  have m1:=u64m (a:=n) (by omega)
  have z0:IntKind.u64.wrap 0=0:=u64n (a:=0) (by omega)
  have m0:IntKind.u64.wrap (0* (n:Int))=0:=by rw [Int.zero_mul];exact z0
  have m2:IntKind.u64.wrap (1*0)=0:=by rw [Int.mul_zero];exact z0
  have m3:IntKind.u64.wrap (0*0)=0:=by rw [Int.mul_zero];exact z0
  have p0:IntKind.u64.wrap (0+0)=0:=by rw [Int.add_zero];exact z0
  (refine ENT (N:=51) Tryz.func161 Tryz.ntmps161 ?_;intro a hA)
  repeat' (first|(refine XT ?_;apply XE;(first|(apply ex_and;rfl;rfl;first|exact a1|exact a2|exact a0)|(apply eZ;rfl;rfl;decide;first|exact s1|exact s2|exact s0)|(apply dB;rfl;rfl;first|exact m1|exact m0|exact m2|exact m3)|(apply dD;rfl;rfl;exact p0));clear hA a;intro a hA)|(refine QT ?_;clear hA a;intro a hA)|refine CT ?_|fail)
  exact rt2 (.inl rfl) rfl hA rfl rfl ⟨rfl,hH.kp⟩
theorem Mul_spec (w0:World) (n:Nat) (hn:n≤256):Ret Tryz.prog 141 #[.int .u64 1,.int .u64 n] w0 (fun v w=>v= .tuple #[.int .u64 0,.int .u64 n]∧Kp w0 noM w):=by
  have hH:HS w0 noM [] w0:=HS.init w0 noM
  (refine ENT (N:=30) Tryz.func141 Tryz.ntmps141 ?_;intro a hA)
  repeat' (first|(refine QT ?_;clear hA a;intro a hA)|(refine zJ hA rfl rfl (by decide) (zE rfl rfl rfl (Mul64_spec _ n hn)) ?_;clear hA;rintro _ w ⟨rfl,hk⟩ a hA;replace hH:=hH.keep hk;clear hk)|refine CT ?_|fail)
  exact rt2 (.inl rfl) rfl hA rfl rfl ⟨rfl,hH.kp⟩
theorem cloneI_spec (w0:World) (o:Option Addr) (c:Nat) (l:List Int) (hR:Rd w0 o (flat Fw.encI l)) (hl:l.length≤1048576) :
    Ret Tryz.prog 93 #[.slice o l.length c] w0 (fun v w=>∃o' c',v= .slice o' l.length c'∧HS w0 noM [own 2 1 o' l.length c' (flat Fw.encI l)] w):=by
  have hH:HS w0 noM [] w0:=HS.init w0 noM
  have hfl:(flat Fw.encI l).length=l.length*1:=zH Fw.encI_len _
  have hon:(flat Fw.encI l).all (·.oneCell')=true:=tC (fun _=>rfl) _
  (refine ENT (N:=8) Tryz.func93 Tryz.ntmps93 ?_;intro a hA)
  repeat' (first|(refine XT ?_;apply XE;(first|(apply rC;rfl;rfl));clear hA a;intro a hA)|(refine QT ?_;clear hA a;intro a hA)|(refine LT ?_;clear hA hH;rintro _ w ⟨oN,rfl,hH⟩ a hA)|refine CT ?_|(refine DT ?_ ?_<;>intro hc<;>try (exfalso;omega))|fail)
  · have hnil:=rd_nil hR (by assumption)
    obtain rfl:l=[]:=List.length_eq_zero_iff.1 (by rw [←Nat.mul_one l.length,←hfl,hnil];rfl)
    rw [fK]
    exact rt1 (.inl rfl) rfl hA rfl ⟨none,0,rfl,hH.nil_own 2 1⟩
  · have hRw:=hH.rd hR id
    (apply zJ hA rfl rfl (by decide);apply yE;rfl;rfl;exact hH;exact MEMT;exact hRw;exact hfl;rfl;decide;exact hon;(unfold maxLen;omega);omega;clear hA;rintro _ w ⟨oN,cN,rfl,hH2⟩ a hA;clear hH;have hH:=hH2 _ (by (repeat constructor));clear hH2)
    repeat' (first|(refine QT ?_;clear hA a;intro a hA)|refine CT ?_|fail)
    rw [Nat.zero_add] at hA hH
    exact rt1 (.inl rfl) rfl hA rfl ⟨_,_,rfl,hH⟩
theorem cloneV_spec (w0:World) (o:Option Addr) (c:Nat) (l:List Value) (hR:Rd w0 o l) (hon:l.all (·.oneCell')=true) (hl:l.length≤1048576) :
    Ret Tryz.prog 94 #[.slice o l.length c] w0 (fun v w=>∃o' c',v= .slice o' l.length c'∧HS w0 noM [own 137 1 o' l.length c' l] w):=by
  have hH:HS w0 noM [] w0:=HS.init w0 noM
  have hfl:l.length=l.length*1:=by omega
  (refine ENT (N:=8) Tryz.func94 Tryz.ntmps94 ?_;intro a hA)
  repeat' (first|(refine XT ?_;apply XE;(first|(apply rC;rfl;rfl));clear hA a;intro a hA)|(refine QT ?_;clear hA a;intro a hA)|(refine LT ?_;clear hA hH;rintro _ w ⟨oN,rfl,hH⟩ a hA)|refine CT ?_|(refine DT ?_ ?_<;>intro hc<;>try (exfalso;omega))|fail)
  · obtain rfl:l=[]:=rd_nil hR (by assumption)
    exact rt1 (.inl rfl) rfl hA rfl ⟨none,0,rfl,hH.nil_own 137 1⟩
  · have hRw:=hH.rd hR id
    (apply zJ hA rfl rfl (by decide);apply yE;rfl;rfl;exact hH;exact MEMT;exact hRw;exact hfl;rfl;decide;exact hon;(unfold maxLen;omega);omega;clear hA;rintro _ w ⟨oN,cN,rfl,hH2⟩ a hA;clear hH;have hH:=hH2 _ (by (repeat constructor));clear hH2)
    repeat' (first|(refine QT ?_;clear hA a;intro a hA)|refine CT ?_|fail)
    rw [Nat.zero_add] at hA hH
    exact rt1 (.inl rfl) rfl hA rfl ⟨_,_,rfl,hH⟩
theorem cZ (w0:World) (o:Option Addr) (n:Nat) (v:Value) (hR:Rd w0 o [v]) (hv:v.oneCell'=true) (hn:n≤256) :
    Ret Tryz.prog 129 #[.slice o 1 1,.int .i64 n] w0 (fun r w=>∃o',r= .slice o' n n∧HS w0 noM [own 137 1 o' n n (List.replicate n v)] w):=by
  have hH:HS w0 noM [] w0:=HS.init w0 noM
  have u1:IntKind.u64.wrap ((1:Nat):Int)=1:=u64n (a:=1) (by omega)
  have u2:=u64n (a:=n) (by omega)
  have u3:IntKind.i64.wrap (n:Int)=n:=wA (by unfold uA;omega)
  (refine ENT (N:=48) Tryz.func129 Tryz.ntmps129 ?_;intro a hA)
  repeat' (first|(refine GT ?_ ?_<;>intro hg<;>clear hA a<;>intro a hA<;>(first|exact FA|replace hg:=dTr hg|replace hg:=dFa hg|skip))|(refine XT ?_;apply XE;(first|(apply wL;rfl;first|exact u1|exact u2|exact u3));clear hA a;intro a hA)|(refine QT ?_;clear hA a;intro a hA)|(refine zJ hA rfl rfl (by decide) (zE rfl rfl rfl (Mul_spec _ n hn)) ?_;clear hA;rintro _ w ⟨rfl,hk⟩ a hA;replace hH:=hH.keep hk;clear hk)|(apply zJ hA rfl rfl (by decide);apply nH (yY) (Value.nilIface) (n:=n);rfl;rfl;omega;omega;(unfold maxLen;omega);omega;rfl;rfl;exact hH;clear hA hH;rintro _ w ⟨oN,rfl,hH⟩ a hA)|refine CT ?_|(refine DT ?_ ?_<;>intro hc<;>try (exfalso;omega))|fail)
  rw [aL,←fillV_0 v] at hH
  have hc0:(([v]:List Value).take (min 1 n)).length=Nat.min 1 n:=by rw [List.length_take];show min (min 1 n) 1=min 1 n;omega
  have ht0:([v]:List Value).take (min 1 n)=List.replicate (min 1 n) v:=by
    rcases Nat.eq_zero_or_pos n with h|h
    · subst h;rfl
    · rw [show min 1 n=1 by omega];rfl
  have hRw:=rd_take (hH.rd hR id) (min 1 n)
  rw [ht0] at hc0 hRw
  have hp0:=fM (v:=v) (m:=0) (n:=n) (k:=min 1 n) (by omega)
  rw [Nat.zero_add] at hp0
  have hb0:0+(List.replicate (min 1 n) v).length≤(vT v 0 n).length:=by rw [fN (Nat.zero_le _),hc0];show 0+min 1 n≤n;omega
  have hrp:∀H,Rp (own 137 1 oN n n (vT v 0 n)::H) (own 137 1 oN n n (vT v 0 n)) (own 137 1 oN n n (put (vT v 0 n) 0 (List.replicate (min 1 n) v))) (own 137 1 oN n n (put (vT v 0 n) 0 (List.replicate (min 1 n) v))::H):=fun H=>.here
  (apply zJ hA rfl rfl (by decide);apply op_copy (k:=0) (news:=List.replicate (min 1 n) v);rfl;rfl;exact hH;exact hRw;exact hc0;exact (fun h=>⟨(sub0 _ _ _).symm,by rw [hc0] at h;show 0<n;have h1:0<min 1 n:=h;omega⟩);exact rep_one hv _;exact hb0;exact hrp _;clear hA hH;rintro _ w ⟨rfl,hH⟩ a hA)
  rw [hp0] at hH
  have hmin:Nat.min 1 n=min 1 n:=rfl
  rw [hmin] at hA
  repeat' (first|(refine QT ?_;clear hA a;intro a hA)|refine CT ?_|fail)
  refine zU (S:=Nat) (fun m a w=>(m≤n∧(0<n→0<m))∧HS w0 noM [own 137 1 oN n n (vT v m n)] w∧Sl 48 [(8,.int .i64 m),(7,.slice oN n n)] a) (fun m=>n - m)
    (fun a w=>HS w0 noM [own 137 1 oN n n (List.replicate n v)] w∧Sl 48 [(7,.slice oN n n)] a) (min 1 n) ⟨⟨by omega,by omega⟩,hH,(hA.sub SBT)⟩ ?_ ?_
  · clear hA hH hp0 hb0 hrp hRw hc0 ht0
    rintro m a w ⟨⟨hm,hm0⟩,hH,hA⟩
    by_cases hlt:m<n
    rotate_left
    · obtain rfl:m=n:=by omega
      rw [fillV_n] at hH
      repeat' (first|(refine QT ?_;clear hA a;intro a hA)|refine CT ?_|(refine DT ?_ ?_<;>intro hc<;>try (exfalso;omega))|fail)
      exact ⟨hH,(hA.sub SBT)⟩
    have hsp:=hH.own_sp (T:=137) (.head _)
    have hlen:=fN (v:=v) (Nat.le_of_lt hlt)
    obtain ⟨k,hk⟩:∃k,k=min m (n - m):=⟨_,rfl⟩
    have hc1:(List.replicate k v).length=Nat.min m (n - m):=by rw [List.length_replicate,hk]
    have hp1:=fM (v:=v) (m:=m) (n:=n) (k:=k) (by omega)
    have hb1:m+(List.replicate k v).length≤(vT v m n).length:=by rw [hlen,List.length_replicate];omega
    have hrp:∀H,Rp (own 137 1 oN n n (vT v m n)::H) (own 137 1 oN n n (vT v m n)) (own 137 1 oN n n (put (vT v m n) m (List.replicate k v))) (own 137 1 oN n n (put (vT v m n) m (List.replicate k v))::H):=fun H=>.here
    have htk:(vT v m n).take k=List.replicate k v:=by
      have:=fillV_take (v:=v) (Nat.le_of_lt hlt) (n - m)
      rw [←hk] at this
      exact this
    repeat' (first|(refine QT ?_;clear hA a;intro a hA)|refine CT ?_|(refine DT ?_ ?_<;>intro hc<;>try (exfalso;omega))|fail)
    (refine zO [(0,1),(1,1),(2,1),(3,1),(4,1),(5,1),(6,1),(7,0),(8,1),(9,1)] mixed (by decide +kernel) hH.drop_ ?_;replace hH:=hH.drew)
    repeat' (first|(refine XT ?_;apply XE;(first|(apply sH (k:=m);rfl;rfl;rfl;omega)|(apply uB (k:=m);rfl;rfl;rfl;omega));clear hA a;intro a hA)|(refine QT ?_;clear hA a;intro a hA)|fail)
    have hRk:=rd_take (hH.own_rd (T:=137) (.head _)) k
    rw [htk] at hRk
    (apply yC hA rfl rfl rfl (by decide);apply op_copy (k:=m) (news:=List.replicate k v);rfl;rfl;exact hH;exact hRk;exact hc1;exact (fun h=>⟨rfl,hlt⟩);exact rep_one hv _;exact hb1;exact hrp _;clear hA hH;rintro _ w ⟨rfl,hH⟩;refine ⟨STT,?_⟩;intro a hA)
    rw [hp1] at hH
    have hmk:Nat.min m (n - m)=k:=hk.symm
    rw [hmk] at hA
    repeat' (first|(refine QT ?_;clear hA a;intro a hA)|refine CT ?_|fail)
    exact ⟨m+k,⟨⟨by omega,fun _=>by omega⟩,hH,(hA.sub SBT)⟩,by omega⟩
  clear hA hH
  rintro a w ⟨hH,hA⟩
  repeat' (first|(refine QT ?_;clear hA a;intro a hA)|refine CT ?_|fail)
  exact rt1 (.inl rfl) rfl hA rfl ⟨_,rfl,hH⟩
end
end Go.Proofs.YtenlcdokaadobaaGreatDoor
