/-
  anf.May: exactly. Conditions: none.
  How many parts a program has (the document's count). Conditions: none.
  ssa.Of: clones of rows of numbers. Conditions: none.
  ssa.Of made plain: a body's blocks, and why they may be. Conditions: none.
  The blocks that ssa.Of makes of a body that may be, may be (plain). Conditions: none.
  The blocks that ssa.Of makes of a body that may be, may be: every kind of body (plain). Conditions: none.
  The order in which ssa.Of lays blocks (plain). Conditions: none.
-/
import Derived.Test.YtenlcdokaadobaaGreatDoorRowMakesMg5
set_option maxHeartbeats 64000000
set_option maxRecDepth 10000
namespace Go.Proofs.YtenlcdokaadobaaGreatDoor
open Go Go.Fw
set_option linter.unusedVariables false
structure FN where
  caps:Int
  body:AN
def encFn (f:FN):List Value:=.int .i64 f.caps::encN f.body
theorem encFn_len (f:FN):(encFn f).length=12:=by unfold encFn;rw [List.length_cons,encN_len]
def capsN (l:List FN):List Int:=l.map FN.caps
theorem cap_atN {l:List FN} {k:Nat} (h:k<l.length):(flat encFn l)[k*12+0]?=some (.int .i64 ((capsN l).getD k 0)):=by
  refine flat_get (off:=0) encFn_len (List.getElem?_eq_getElem h) ?_
  unfold capsN
  rw [List.getD_eq_getElem?_getD,List.getElem?_map,List.getElem?_eq_getElem h]
  rfl
theorem caps_nextN {l:List FN} {i:Nat} {f:FN} (h:l[i]?=some f):capsN (l.take (i+1))=capsN (l.take i)++[f.caps]:=by unfold capsN;rw [take_snoc h,List.map_append];rfl
theorem sub_bdN (f:FN) (i:Nat) (v:Value) (h:(encN f.body)[i]?=some v):(encFn f)[0+1+i]?=some v:=by rw [Nat.zero_add,Nat.add_comm];exact h
def cs0 (p:Int):CS:=⟨[],[0,1],[],[],p⟩
open Classical in
noncomputable def funsF (g:Grs) (la:List Int):List FN→Int→Option Int
  | [],p=>some p
  |f::l,p=>if 0≤f.caps∧f.caps≤4096 then (bodyF g la f.caps f.body 1 (cs0 p)).bind fun s=>funsF g la l s.p else none
theorem funs_yes {g:Grs} {la:List Int} {l:List FN} {i:Nat} {f:FN} {p:Int} (h:l[i]?=some f) (hc:0≤f.caps∧f.caps≤4096):funsF g la (l.drop i) p=(bodyF g la f.caps f.body 1 (cs0 p)).bind fun s=>funsF g la (l.drop (i+1)) s.p:=by
  obtain ⟨hi,rfl⟩:=List.getElem?_eq_some_iff.1 h
  rw [List.drop_eq_getElem_cons hi]
  exact if_pos hc
theorem funs_no {g:Grs} {la:List Int} {l:List FN} {i:Nat} {f:FN} {p:Int} (h:l[i]?=some f) (hc:¬(0≤f.caps∧f.caps≤4096)):funsF g la (l.drop i) p=none:=by
  obtain ⟨hi,rfl⟩:=List.getElem?_eq_some_iff.1 h
  rw [List.drop_eq_getElem_cons hi]
  exact if_neg hc
def MayN (l:List FN) (g:Grs):Prop:=AnfP (capsN l) g∧∃p,funsF g (capsN l) l 0=some p
theorem mayn_no {l:List FN} {g:Grs} (h:¬AnfP (capsN l) g):false=true↔MayN l g:=⟨fun e=>(by cases e),fun e=>absurd e.1 h⟩
theorem mayn_no2 {l:List FN} {g:Grs} (h:funsF g (capsN l) l 0=none):false=true↔MayN l g:=⟨fun e=>(by cases e),fun ⟨_,p,e⟩=>(by rw [h] at e;cases e)⟩
theorem caps_okN {l:List FN} {i:Nat} {f:FN} (hx:l[i]?=some f) (h:∀c∈capsN (l.take i),0≤c∧c≤4096) (ha:0≤f.caps∧f.caps≤4096):∀c∈capsN (l.take (i+1)),0≤c∧c≤4096:=by
  rw [caps_nextN hx]
  intro c hc
  rcases List.mem_append.1 hc with h1|h1
  · exact h c h1
  · rw [List.mem_singleton] at h1
    exact h1▸ha
theorem cs0_ok {p:Int} (h0:0≤p) (h1:p≤65536):CsOk (cs0 p):=⟨h0,h1,fun x hx=>by
  simp only [cs0,List.mem_cons,List.not_mem_nil,or_false] at hx
  exact .inl (by omega)⟩
section
attribute [local irreducible] Code.wp wpList Calls Ex Op1 sat bat blk cb own Go.Fw.mp Go.Fw.mpO Go.Fw.mpI Go.Fw.mpE Go.Fw.itr HS Rd Ret wkD Hp Cl Cls Exit.then Exit.inBlock Exit.noGoto bodyPost Go.Fw.flat wk2 Go.Fw.all Go.Fw.owns wpOp
attribute [local irreducible] sk mpK sko mvO entK geS

theorem anfMayN_spec (w0:World) (oF:Option Addr) (cF:Nat) (fl:List FN) (g:Grs) (hF:Rd w0 oF (flat encFn fl)) (hr:∀f∈fl,RdN w0 f.body) (hcl:fl.length≤17592186044416) (hls:RdV w0 encX g.ls) (hts:RdV w0 encX g.ts) (hxs:RdV w0 encX g.xs) (hss:RdV w0 encX g.ss) :
    Ret Tryz.prog 18 #[.agg (encP oF fl.length cF g).toArray] w0 (fun v w=>∃b,v= .bool b∧(b=true↔MayN fl g)∧Kp w0 noM w):=by
  have hcsl:(capsN fl).length=fl.length:=List.length_map ..
  have hH:HS w0 noM [] w0:=HS.init w0 noM
  have hspF:Sp oF fl.length:=hF.sp (sz:=12) (flat_length encFn_len _) (by omega)
  (refine ENT (N:=126) Tryz.func18 Tryz.ntmps18 ?_;intro a hA)
  repeat' (first|(first|(refine GT ?_ ?_<;>intro hg<;>clear hA a<;>intro a hA<;>(first|exact FA|replace hg:=dTr hg|replace hg:=dFa hg|skip))|(refine XT ?_;apply XE;(first|(apply ex_load;rfl;refine cl_rd hF id (cap_atN ?_);(show 0< _);omega));clear hA a;intro a hA)|(refine QT ?_;clear hA a;intro a hA)|(first|(refine BT ?_;clear hA hH;rintro _ w ⟨bN,rfl,hH⟩ a hA)|(refine LT ?_;clear hA hH;rintro _ w ⟨oN,rfl,hH⟩ a hA)|(refine AT ?_;clear hA;rintro _ w ⟨oN,cN,rfl,hH2⟩ a hA;clear hH;have hH:=(hH2 _ (by (repeat constructor))).tail;clear hH2)|(refine S0T ?_;clear hH;rintro _ w hH)|(refine st_op hA rfl rfl (by decide) (op_call rfl rfl rfl (rising_spec _ g.ls (hls.keep hH.kp))) ?_;clear hA;rintro _ w ⟨b,rfl,hb1,hk⟩ a hA;replace hH:=hH.keep hk;clear hk)|(refine st_op hA rfl rfl (by decide) (op_call rfl rfl rfl (rising_spec _ g.ts (hts.keep hH.kp))) ?_;clear hA;rintro _ w ⟨b,rfl,hb2,hk⟩ a hA;replace hH:=hH.keep hk;clear hk)|(refine st_op hA rfl rfl (by decide) (op_call rfl rfl rfl (rising_spec _ g.xs (hxs.keep hH.kp))) ?_;clear hA;rintro _ w ⟨b,rfl,hb3,hk⟩ a hA;replace hH:=hH.keep hk;clear hk)))|refine CT ?_|(refine DT ?_ ?_<;>intro hc<;>try (exfalso;omega))|(first|(refine DSK ?_;clear hA a;intro a hA)|(first|(refine DLT ?_;clear hA hH;rintro _ w ⟨oN,rfl,hH⟩;refine ⟨STT,?_⟩;intro a hA)|(refine DAT ?_;clear hA;rintro _ w ⟨oN,cN,rfl,hH2⟩;clear hH;have hH:=(hH2 _ (by (repeat constructor))).tail;clear hH2;refine ⟨STT,?_⟩;intro a hA))))
  · exact rt1 (.inl rfl) rfl hA rfl ⟨_,rfl,mayn_no (fun h=>(by have:=h.pos;omega)),hH.kp⟩
  · exact rt1 (.inl rfl) rfl hA rfl ⟨_,rfl,mayn_no (fun h=>(by have:=h.top;omega)),hH.kp⟩
  · exact rt1 (.inl rfl) rfl hA rfl ⟨_,rfl,mayn_no (fun h=>(by assumption:(capsN fl).getD (Int.toNat 0) 0≠0) h.c0),hH.kp⟩
  · exact rt1 (.inl rfl) rfl hA rfl ⟨_,rfl,mayn_no (fun h=>nb_no hb1 (by assumption) h.ls),hH.kp⟩
  · exact rt1 (.inl rfl) rfl hA rfl ⟨_,rfl,mayn_no (fun h=>nb_no hb2 (by assumption) h.ts),hH.kp⟩
  · exact rt1 (.inl rfl) rfl hA rfl ⟨_,rfl,mayn_no (fun h=>nb_no hb3 (by assumption) h.xs),hH.kp⟩
  have hp1:=nb_yes hb1 (by assumption)
  have hp2:=nb_yes hb2 (by assumption)
  have hp3:=nb_yes hb3 (by assumption)
  have hc0:(capsN fl).getD 0 0=0:=Decidable.not_not.1 (by assumption:¬(capsN fl).getD (Int.toNat 0) 0≠0)
  clear hb1 hb2 hb3
  obtain ⟨b1,hb1⟩:∃x,x=bN:=⟨_,rfl⟩
  rw [←hb1] at hA hH
  clear hb1 bN
  have hcl2:1≤(capsN fl).length:=by omega
  have hcl4:(capsN fl).length≤4096:=by omega
  obtain ⟨sl,hsl0,hsl,hH1⟩:=own4 hH
  have hsl4:sl=four:=hsl0.trans rfl
  clear hsl0
  clear hH
  have hH:=hH1
  clear hH1
  have hA2:Sl 126 [(48,.int .i64 (0:Nat)),(47,.int .i64 sl.length),(46,.slice oN sl.length sl.length),(1,.pointer (some (bat b1 0)))] a:=by rw [hsl];exact (hA.sub SBT)
  clear hA
  have hspS:=hH.own_sp (T:=9) (o:=oN) (.head _)
  refine wp_lpk (S:=Nat) (fun i a w=>(i≤sl.length∧∀k,k<i→hasS g.xs.l (sl.getD k default))∧HS w0 noM [own 9 1 oN sl.length sl.length (flat encX sl),cb b1 34 (encP oF fl.length cF g)] w∧Sl 126 [(48,.int .i64 i),(47,.int .i64 sl.length),(46,.slice oN sl.length sl.length),(1,.pointer (some (bat b1 0)))] a) (fun i=>sl.length - i)
    (fun a w=>(∀k,k<sl.length→hasS g.xs.l (sl.getD k default))∧HS w0 noM [cb b1 34 (encP oF fl.length cF g)] w∧Sl 126 [(1,.pointer (some (bat b1 0)))] a) 0 ⟨⟨Nat.zero_le _,fun k h=>absurd h (Nat.not_lt_zero _)⟩,hH,hA2⟩ ?_ ?_
  · clear hA2 hH
    rintro i a w ⟨⟨hi,hhas⟩,hH,hA⟩
    by_cases hlt:i<sl.length
    rotate_left
    · obtain rfl:i=sl.length:=by omega
      repeat' (first|(first|(refine GT ?_ ?_<;>intro hg<;>clear hA a<;>intro a hA<;>(first|exact FA|replace hg:=dTr hg|replace hg:=dFa hg|skip))|(refine QT ?_;clear hA a;intro a hA)|(first|(refine BT ?_;clear hA hH;rintro _ w ⟨bN,rfl,hH⟩ a hA)|(refine LT ?_;clear hA hH;rintro _ w ⟨oN,rfl,hH⟩ a hA)|(refine AT ?_;clear hA;rintro _ w ⟨oN,cN,rfl,hH2⟩ a hA;clear hH;have hH:=(hH2 _ (by (repeat constructor))).tail;clear hH2)|(refine S0T ?_;clear hH;rintro _ w hH)))|refine CT ?_|(refine DT ?_ ?_<;>intro hc<;>try (exfalso;omega))|(first|(refine DSK ?_;clear hA a;intro a hA)|(first|(refine DLT ?_;clear hA hH;rintro _ w ⟨oN,rfl,hH⟩;refine ⟨STT,?_⟩;intro a hA)|(refine DAT ?_;clear hA;rintro _ w ⟨oN,cN,rfl,hH2⟩;clear hH;have hH:=(hH2 _ (by (repeat constructor))).tail;clear hH2;refine ⟨STT,?_⟩;intro a hA))))
      exact ⟨hhas,hH.tail,(hA.sub SBT)⟩
    have hv:=strs_at hlt
    repeat' (first|(first|(refine GT ?_ ?_<;>intro hg<;>clear hA a<;>intro a hA<;>(first|exact FA|replace hg:=dTr hg|replace hg:=dFa hg|skip))|(refine XT ?_;apply XE;(first|(apply ex_indexAddr_nat;rfl;rfl;omega;exact hspS)|(apply ex_load;rfl;apply cl_own (T:=9);exact MEMT;exact hv));clear hA a;intro a hA)|(refine QT ?_;clear hA a;intro a hA)|(first|(refine BT ?_;clear hA hH;rintro _ w ⟨bN,rfl,hH⟩ a hA)|(refine LT ?_;clear hA hH;rintro _ w ⟨oN,rfl,hH⟩ a hA)|(refine AT ?_;clear hA;rintro _ w ⟨oN,cN,rfl,hH2⟩ a hA;clear hH;have hH:=(hH2 _ (by (repeat constructor))).tail;clear hH2)|(refine S0T ?_;clear hH;rintro _ w hH)))|refine CT ?_|(refine DT ?_ ?_<;>intro hc<;>try (exfalso;omega))|(first|(refine DSK ?_;clear hA a;intro a hA)|(first|(refine DLT ?_;clear hA hH;rintro _ w ⟨oN,rfl,hH⟩;refine ⟨STT,?_⟩;intro a hA)|(refine DAT ?_;clear hA;rintro _ w ⟨oN,cN,rfl,hH2⟩;clear hH;have hH:=(hH2 _ (by (repeat constructor))).tail;clear hH2;refine ⟨STT,?_⟩;intro a hA))))
    (refine st_op hA rfl rfl (by decide) (op_call rfl rfl rfl (containsX_spec _ g.xs _ (hxs.keep hH.kp))) ?_;clear hA;rintro _ w ⟨rfl,hk⟩ a hA;replace hH:=hH.keep hk;clear hk)
    repeat' (first|(first|(refine GT ?_ ?_<;>intro hg<;>clear hA a<;>intro a hA<;>(first|exact FA|replace hg:=dTr hg|replace hg:=dFa hg|skip))|(refine QT ?_;clear hA a;intro a hA)|(first|(refine BT ?_;clear hA hH;rintro _ w ⟨bN,rfl,hH⟩ a hA)|(refine LT ?_;clear hA hH;rintro _ w ⟨oN,rfl,hH⟩ a hA)|(refine AT ?_;clear hA;rintro _ w ⟨oN,cN,rfl,hH2⟩ a hA;clear hH;have hH:=(hH2 _ (by (repeat constructor))).tail;clear hH2)|(refine S0T ?_;clear hH;rintro _ w hH)))|refine CT ?_|(refine DT ?_ ?_<;>intro hc<;>try (exfalso;omega))|(first|(refine DSK ?_;clear hA a;intro a hA)|(first|(refine DLT ?_;clear hA hH;rintro _ w ⟨oN,rfl,hH⟩;refine ⟨STT,?_⟩;intro a hA)|(refine DAT ?_;clear hA;rintro _ w ⟨oN,cN,rfl,hH2⟩;clear hH;have hH:=(hH2 _ (by (repeat constructor))).tail;clear hH2;refine ⟨STT,?_⟩;intro a hA))))
    all_goals first|exact ⟨i+1,⟨⟨hlt,lt_next (p:=fun k=>hasS g.xs.l (sl.getD k default)) hhas (by assumption)⟩,hH,(hA.sub SBT)⟩,by omega⟩|exact rt1 (.inl rfl) rfl hA rfl ⟨_,rfl,mayn_no (fun h=>(by assumption:¬0≤idxF g.xs.l (sl.getD i default)) (has4 h _ (hsl4▸getD_mem hlt))),hH.kp⟩
  clear hA2 hH
  rintro a w ⟨hhas,hH,hA⟩
  rw [hsl4] at hhas
  have hx4:=has4_of hhas
  clear hhas hsl hsl4 hspS
  repeat' (first|(first|(refine GT ?_ ?_<;>intro hg<;>clear hA a<;>intro a hA<;>(first|exact FA|replace hg:=dTr hg|replace hg:=dFa hg|skip))|(refine QT ?_;clear hA a;intro a hA)|(first|(refine BT ?_;clear hA hH;rintro _ w ⟨bN,rfl,hH⟩ a hA)|(refine LT ?_;clear hA hH;rintro _ w ⟨oN,rfl,hH⟩ a hA)|(refine AT ?_;clear hA;rintro _ w ⟨oN,cN,rfl,hH2⟩ a hA;clear hH;have hH:=(hH2 _ (by (repeat constructor))).tail;clear hH2)|(refine S0T ?_;clear hH;rintro _ w hH)))|refine CT ?_|(refine DT ?_ ?_<;>intro hc<;>try (exfalso;omega))|(first|(refine DSK ?_;clear hA a;intro a hA)|(first|(refine DLT ?_;clear hA hH;rintro _ w ⟨oN,rfl,hH⟩;refine ⟨STT,?_⟩;intro a hA)|(refine DAT ?_;clear hA;rintro _ w ⟨oN,cN,rfl,hH2⟩;clear hH;have hH:=(hH2 _ (by (repeat constructor))).tail;clear hH2;refine ⟨STT,?_⟩;intro a hA))))
  (refine st_op hA rfl rfl (by decide) (op_call rfl rfl rfl (containsFX_spec _ g.ss (hss.keep hH.kp))) ?_;clear hA;rintro _ w ⟨b,rfl,hbs,hk⟩ a hA;replace hH:=hH.keep hk;clear hk)
  repeat' (first|(first|(refine GT ?_ ?_<;>intro hg<;>clear hA a<;>intro a hA<;>(first|exact FA|replace hg:=dTr hg|replace hg:=dFa hg|skip))|(refine XT ?_;apply XE;(first|(apply ex_build (szs:=[(0,5),(5,1),(6,1),(7,1),(8,1),(9,1),(10,1),(11,1)]) (cs:=(encKk (kk0 oF fl.length cF g) 0).toArray);exact run_szl (by (repeat (first|exact SzL.nil|refine SzL.cons ⟨_,rfl,by decide⟩ ?_)));rfl;rfl));clear hA a;intro a hA)|(refine QT ?_;clear hA a;intro a hA)|(first|(refine BT ?_;clear hA hH;rintro _ w ⟨bN,rfl,hH⟩ a hA)|(refine LT ?_;clear hA hH;rintro _ w ⟨oN,rfl,hH⟩ a hA)|(refine AT ?_;clear hA;rintro _ w ⟨oN,cN,rfl,hH2⟩ a hA;clear hH;have hH:=(hH2 _ (by (repeat constructor))).tail;clear hH2)|(refine S0T ?_;clear hH;rintro _ w hH)))|refine CT ?_|(refine DT ?_ ?_<;>intro hc<;>try (exfalso;omega))|(first|(refine DSK ?_;clear hA a;intro a hA)|(first|(refine DLT ?_;clear hA hH;rintro _ w ⟨oN,rfl,hH⟩;refine ⟨STT,?_⟩;intro a hA)|(refine DAT ?_;clear hA;rintro _ w ⟨oN,cN,rfl,hH2⟩;clear hH;have hH:=(hH2 _ (by (repeat constructor))).tail;clear hH2;refine ⟨STT,?_⟩;intro a hA))))
  · exact rt1 (.inl rfl) rfl hA rfl ⟨_,rfl,mayn_no (fun h=>hbs.1 (by assumption) h.ss),hH.kp⟩
  have hss4:∀s∈g.ss.l,s.size≤4096:=Classical.not_not.1 fun h=>absurd ((by assumption:b=false).symm.trans (hbs.2 h)) (by decide)
  clear hbs
  obtain ⟨bK,hbK⟩:∃x,x=bN:=⟨_,rfl⟩
  rw [←hbK] at hA hH
  clear hbK bN
  refine wp_lpk (S:=Nat) (fun i a w=>∃oA cA,i≤fl.length∧HS w0 noM [cb bK 127 (encKk ⟨oF,fl.length,cF,g,oA,i,cA,0,none,none,none,none⟩ 0),own 3 1 oA i cA (flat Fw.encI (capsN (fl.take i))),cb b1 34 (encP oF fl.length cF g)] w∧Sl 126 [(67,.int .i64 i),(66,.int .i64 fl.length),(65,.slice oF fl.length cF),(5,.pointer (some (bat bK 0))),(1,.pointer (some (bat b1 0)))] a) (fun i=>fl.length - i)
    (fun a w=>∃oA cA,HS w0 noM [cb bK 127 (encKk ⟨oF,fl.length,cF,g,oA,fl.length,cA,0,none,none,none,none⟩ 0),own 3 1 oA fl.length cA (flat Fw.encI (capsN fl)),cb b1 34 (encP oF fl.length cF g)] w∧Sl 126 [(5,.pointer (some (bat bK 0))),(1,.pointer (some (bat b1 0)))] a) 0 ⟨none,0,Nat.zero_le _,(by rw [List.take_zero];exact (hH.nil_flat Fw.encI 3 1).perm PMT),(hA.sub SBT)⟩ ?_ ?_
  · clear hA hH
    rintro i a w ⟨oA,cA,hi,hH,hA⟩
    by_cases hlt:i<fl.length
    rotate_left
    · obtain rfl:i=fl.length:=by omega
      rw [List.take_length] at hH
      repeat' (first|(first|(refine GT ?_ ?_<;>intro hg<;>clear hA a<;>intro a hA<;>(first|exact FA|replace hg:=dTr hg|replace hg:=dFa hg|skip))|(refine QT ?_;clear hA a;intro a hA)|(first|(refine BT ?_;clear hA hH;rintro _ w ⟨bN,rfl,hH⟩ a hA)|(refine LT ?_;clear hA hH;rintro _ w ⟨oN,rfl,hH⟩ a hA)|(refine AT ?_;clear hA;rintro _ w ⟨oN,cN,rfl,hH2⟩ a hA;clear hH;have hH:=(hH2 _ (by (repeat constructor))).tail;clear hH2)|(refine S0T ?_;clear hH;rintro _ w hH)))|refine CT ?_|(refine DT ?_ ?_<;>intro hc<;>try (exfalso;omega))|(first|(refine DSK ?_;clear hA a;intro a hA)|(first|(refine DLT ?_;clear hA hH;rintro _ w ⟨oN,rfl,hH⟩;refine ⟨STT,?_⟩;intro a hA)|(refine DAT ?_;clear hA;rintro _ w ⟨oN,cN,rfl,hH2⟩;clear hH;have hH:=(hH2 _ (by (repeat constructor))).tail;clear hH2;refine ⟨STT,?_⟩;intro a hA))))
      exact ⟨oA,cA,hH,(hA.sub SBT)⟩
    obtain ⟨x,hx⟩:∃x,fl[i]?=some x:=⟨_,List.getElem?_eq_getElem hlt⟩
    have hvx:=flat_all encFn_len hx
    have hcn:=caps_nextN hx
    obtain ⟨xc,⟨k',x',xs',n',ns',r',va',ko',kc',kids'⟩⟩:=x
    repeat' (first|(first|(refine GT ?_ ?_<;>intro hg<;>clear hA a<;>intro a hA<;>(first|exact FA|replace hg:=dTr hg|replace hg:=dFa hg|skip))|(refine XT ?_;apply XE;(first|(apply ex_load_st (vs:=encFn ⟨xc,.mk k' x' xs' n' ns' r' va' ko' kc' kids'⟩);rfl;rfl;exact cls_rd hF id hvx)|(apply ex_indexAddr_nat;rfl;rfl;omega;exact hspF));clear hA a;intro a hA)|(refine QT ?_;clear hA a;intro a hA)|(first|(refine BT ?_;clear hA hH;rintro _ w ⟨bN,rfl,hH⟩ a hA)|(refine LT ?_;clear hA hH;rintro _ w ⟨oN,rfl,hH⟩ a hA)|(refine AT ?_;clear hA;rintro _ w ⟨oN,cN,rfl,hH2⟩ a hA;clear hH;have hH:=(hH2 _ (by (repeat constructor))).tail;clear hH2)|(refine S0T ?_;clear hH;rintro _ w hH)|(refine SAT (encFn ⟨xc,.mk k' x' xs' n' ns' r' va' ko' kc' kids'⟩) hA hH ?_;clear hH;intro w hH)))|refine CT ?_|(refine DT ?_ ?_<;>intro hc<;>try (exfalso;omega))|(first|(refine DSK ?_;clear hA a;intro a hA)|(first|(refine DLT ?_;clear hA hH;rintro _ w ⟨oN,rfl,hH⟩;refine ⟨STT,?_⟩;intro a hA)|(refine DAT ?_;clear hA;rintro _ w ⟨oN,cN,rfl,hH2⟩;clear hH;have hH:=(hH2 _ (by (repeat constructor))).tail;clear hH2;refine ⟨STT,?_⟩;intro a hA))))
    have hST:HS w0 noM [cb bN 72 (encFn ⟨xc,.mk k' x' xs' n' ns' r' va' ko' kc' kids'⟩),cb bK 127 (encKk ⟨oF,fl.length,cF,g,oA,i,cA,0,none,none,none,none⟩ 0)] w:=HS.left (H1:=[_,_]) hH
    (refine wp_draw2_HS (H:=[_,_]) [(0,1),(1,1),(2,1),(3,1),(4,1),(5,1),(6,1),(7,0),(8,0),(9,1),(10,1)] [11] mixed (by decide +kernel) (hST) ?_;replace hH:=hH.drew)
    clear hST
    repeat' (first|(first|(refine GT ?_ ?_<;>intro hg<;>clear hA a<;>intro a hA<;>(first|exact FA|replace hg:=dTr hg|replace hg:=dFa hg|skip))|(refine QT ?_;clear hA a;intro a hA)|(first|(refine BT ?_;clear hA hH;rintro _ w ⟨bN,rfl,hH⟩ a hA)|(refine LT ?_;clear hA hH;rintro _ w ⟨oN,rfl,hH⟩ a hA)|(refine AT ?_;clear hA;rintro _ w ⟨oN,cN,rfl,hH2⟩ a hA;clear hH;have hH:=(hH2 _ (by (repeat constructor))).tail;clear hH2)|(refine S0T ?_;clear hH;rintro _ w hH)))|refine CT ?_|(refine DT ?_ ?_<;>intro hc<;>try (exfalso;omega))|(first|(refine DSK ?_;clear hA a;intro a hA)|(first|(refine DLT ?_;clear hA hH;rintro _ w ⟨oN,rfl,hH⟩;refine ⟨STT,?_⟩;intro a hA)|(refine DAT ?_;clear hA;rintro _ w ⟨oN,cN,rfl,hH2⟩;clear hH;have hH:=(hH2 _ (by (repeat constructor))).tail;clear hH2;refine ⟨STT,?_⟩;intro a hA))))
    (apply dr_op hA rfl rfl rfl (by decide);apply op_sliceLit;rfl;rfl;exact CATST;rfl;rfl;rfl;exact hH;clear hA hH;rintro _ w ⟨oN,rfl,hH⟩;refine ⟨HS.left (H1:=[_,_]) hH.tail,?_⟩;intro a hA)
    dsimp only at hA
    (apply dr_op hA rfl rfl rfl (by decide);apply op_append;rfl;rfl;exact hH;exact MEMT;exact (hH.own_rd (List.Mem.head _));exact rfl;rfl;decide;exact rfl;(unfold maxLen;omega);omega;clear hA;rintro _ w ⟨oN,cN,rfl,hH2⟩;clear hH;have hH:=hH2 _ (by (repeat constructor));clear hH2;refine ⟨HS.left (H1:=[_,_]) hH.tail,?_⟩;intro a hA)
    rw [flatI_s,←hcn] at hH
    repeat' (first|(first|(refine GT ?_ ?_<;>intro hg<;>clear hA a<;>intro a hA<;>(first|exact FA|replace hg:=dTr hg|replace hg:=dFa hg|skip))|(refine QT ?_;clear hA a;intro a hA)|(first|(refine BT ?_;clear hA hH;rintro _ w ⟨bN,rfl,hH⟩ a hA)|(refine LT ?_;clear hA hH;rintro _ w ⟨oN,rfl,hH⟩ a hA)|(refine AT ?_;clear hA;rintro _ w ⟨oN,cN,rfl,hH2⟩ a hA;clear hH;have hH:=(hH2 _ (by (repeat constructor))).tail;clear hH2)|(refine S0T ?_;clear hH;rintro _ w hH)))|refine CT ?_|(refine DT ?_ ?_<;>intro hc<;>try (exfalso;omega))|(first|(refine DSK ?_;clear hA a;intro a hA)|(first|(refine DLT ?_;clear hA hH;rintro _ w ⟨oN,rfl,hH⟩;refine ⟨STT,?_⟩;intro a hA)|(refine DAT ?_;clear hA;rintro _ w ⟨oN,cN,rfl,hH2⟩;clear hH;have hH:=(hH2 _ (by (repeat constructor))).tail;clear hH2;refine ⟨STT,?_⟩;intro a hA))))
    (apply dr_op03 hA rfl rfl rfl;apply op_store_fld (cs':=encKk ⟨oF,fl.length,cF,g,oN,i+1,cN,0,none,none,none,none⟩ 0);rfl;rfl;rfl;exact hH;(repeat constructor);clear hH;rintro _ w hH)
    repeat' (first|(first|(refine GT ?_ ?_<;>intro hg<;>clear hA a<;>intro a hA<;>(first|exact FA|replace hg:=dTr hg|replace hg:=dFa hg|skip))|(refine QT ?_;clear hA a;intro a hA)|(first|(refine BT ?_;clear hA hH;rintro _ w ⟨bN,rfl,hH⟩ a hA)|(refine LT ?_;clear hA hH;rintro _ w ⟨oN,rfl,hH⟩ a hA)|(refine AT ?_;clear hA;rintro _ w ⟨oN,cN,rfl,hH2⟩ a hA;clear hH;have hH:=(hH2 _ (by (repeat constructor))).tail;clear hH2)|(refine S0T ?_;clear hH;rintro _ w hH)))|refine CT ?_|(refine DT ?_ ?_<;>intro hc<;>try (exfalso;omega))|(first|(refine DSK ?_;clear hA a;intro a hA)|(first|(refine DLT ?_;clear hA hH;rintro _ w ⟨oN,rfl,hH⟩;refine ⟨STT,?_⟩;intro a hA)|(refine DAT ?_;clear hA;rintro _ w ⟨oN,cN,rfl,hH2⟩;clear hH;have hH:=(hH2 _ (by (repeat constructor))).tail;clear hH2;refine ⟨STT,?_⟩;intro a hA))))
    exact ⟨i+1,⟨oN,cN,hlt,(((hH.rm 0).rm 0).perm PMT),(hA.sub SBT)⟩,by omega⟩
  clear hA hH
  rintro a w ⟨oA,cA,hH,hA⟩
  repeat' (first|(first|(refine GT ?_ ?_<;>intro hg<;>clear hA a<;>intro a hA<;>(first|exact FA|replace hg:=dTr hg|replace hg:=dFa hg|skip))|(refine QT ?_;clear hA a;intro a hA)|(first|(refine BT ?_;clear hA hH;rintro _ w ⟨bN,rfl,hH⟩ a hA)|(refine LT ?_;clear hA hH;rintro _ w ⟨oN,rfl,hH⟩ a hA)|(refine AT ?_;clear hA;rintro _ w ⟨oN,cN,rfl,hH2⟩ a hA;clear hH;have hH:=(hH2 _ (by (repeat constructor))).tail;clear hH2)|(refine S0T ?_;clear hH;rintro _ w hH)))|refine CT ?_|(refine DT ?_ ?_<;>intro hc<;>try (exfalso;omega))|(first|(refine DSK ?_;clear hA a;intro a hA)|(first|(refine DLT ?_;clear hA hH;rintro _ w ⟨oN,rfl,hH⟩;refine ⟨STT,?_⟩;intro a hA)|(refine DAT ?_;clear hA;rintro _ w ⟨oN,cN,rfl,hH2⟩;clear hH;have hH:=(hH2 _ (by (repeat constructor))).tail;clear hH2;refine ⟨STT,?_⟩;intro a hA))))
  refine wp_lpk (S:=Nat) (fun i a w=>∃(cp:Int) (e n j o:Option Nat) (p:Int),(i≤fl.length∧0≤p∧p≤65536∧(∀c∈capsN (fl.take i),0≤c∧c≤4096)∧funsF g (capsN fl) fl 0=funsF g (capsN fl) (fl.drop i) p)∧HS w0 noM [cb bK 127 (encKk ⟨oF,fl.length,cF,g,oA,fl.length,cA,cp,e,n,j,o⟩ p),own 3 1 oA fl.length cA (flat Fw.encI (capsN fl)),cb b1 34 (encP oF fl.length cF g)] w∧Sl 126 [(86,.int .i64 i),(85,.int .i64 fl.length),(84,.slice oF fl.length cF),(5,.pointer (some (bat bK 0)))] a) (fun i=>fl.length - i)
    (fun a w=>((∀c∈capsN fl,0≤c∧c≤4096)∧∃p,funsF g (capsN fl) fl 0=some p)∧HS w0 noM [] w∧Sl 126 [] a) 0 ⟨0,none,none,none,none,0,⟨Nat.zero_le _,Int.le_refl _,by omega,(by rw [List.take_zero];exact fun c h=>absurd h List.not_mem_nil),rfl⟩,hH,(hA.sub SBT)⟩ ?_ ?_
  · clear hA hH
    rintro i a w ⟨cp,e,n,j,o,p,⟨hi,hp0,hp1,hcap,heq⟩,hH,hA⟩
    by_cases hlt:i<fl.length
    rotate_left
    · obtain rfl:i=fl.length:=by omega
      rw [List.take_length] at hcap
      rw [List.drop_length,funsF] at heq
      repeat' (first|(first|(refine GT ?_ ?_<;>intro hg<;>clear hA a<;>intro a hA<;>(first|exact FA|replace hg:=dTr hg|replace hg:=dFa hg|skip))|(refine QT ?_;clear hA a;intro a hA)|(first|(refine BT ?_;clear hA hH;rintro _ w ⟨bN,rfl,hH⟩ a hA)|(refine LT ?_;clear hA hH;rintro _ w ⟨oN,rfl,hH⟩ a hA)|(refine AT ?_;clear hA;rintro _ w ⟨oN,cN,rfl,hH2⟩ a hA;clear hH;have hH:=(hH2 _ (by (repeat constructor))).tail;clear hH2)|(refine S0T ?_;clear hH;rintro _ w hH)))|refine CT ?_|(refine DT ?_ ?_<;>intro hc<;>try (exfalso;omega))|(first|(refine DSK ?_;clear hA a;intro a hA)|(first|(refine DLT ?_;clear hA hH;rintro _ w ⟨oN,rfl,hH⟩;refine ⟨STT,?_⟩;intro a hA)|(refine DAT ?_;clear hA;rintro _ w ⟨oN,cN,rfl,hH2⟩;clear hH;have hH:=(hH2 _ (by (repeat constructor))).tail;clear hH2;refine ⟨STT,?_⟩;intro a hA))))
      exact ⟨⟨hcap,p,heq⟩,hH.tail.tail.tail,(hA.sub SBT)⟩
    obtain ⟨x,hx⟩:∃x,fl[i]?=some x:=⟨_,List.getElem?_eq_getElem hlt⟩
    have hvx:=flat_all encFn_len hx
    have hrx:=hr x (List.mem_of_getElem? hx)
    have hcn:=caps_okN hx hcap
    have hfy:=funs_yes (g:=g) (la:=capsN fl) (p:=p) hx
    have hfn:=funs_no (g:=g) (la:=capsN fl) (p:=p) hx
    obtain ⟨xc,⟨k',x',xs',n',ns',r',va',ko',kc',kids'⟩⟩:=x
    dsimp only at hcn hfy hfn hrx
    repeat' (first|(first|(refine GT ?_ ?_<;>intro hg<;>clear hA a<;>intro a hA<;>(first|exact FA|replace hg:=dTr hg|replace hg:=dFa hg|skip))|(refine XT ?_;apply XE;(first|(apply ex_load_st (vs:=encFn ⟨xc,.mk k' x' xs' n' ns' r' va' ko' kc' kids'⟩);rfl;rfl;exact cls_rd hF id hvx)|(apply ex_indexAddr_nat;rfl;rfl;omega;exact hspF));clear hA a;intro a hA)|(refine QT ?_;clear hA a;intro a hA)|(first|(refine BT ?_;clear hA hH;rintro _ w ⟨bN,rfl,hH⟩ a hA)|(refine LT ?_;clear hA hH;rintro _ w ⟨oN,rfl,hH⟩ a hA)|(refine AT ?_;clear hA;rintro _ w ⟨oN,cN,rfl,hH2⟩ a hA;clear hH;have hH:=(hH2 _ (by (repeat constructor))).tail;clear hH2)|(refine S0T ?_;clear hH;rintro _ w hH)|(refine SAT (encFn ⟨xc,.mk k' x' xs' n' ns' r' va' ko' kc' kids'⟩) hA hH ?_;clear hH;intro w hH)|(apply st_op0 hA rfl rfl;apply op_store_fld (cs':=encKk ⟨oF,fl.length,cF,g,oA,fl.length,cA,xc,e,n,j,o⟩ p);rfl;rfl;rfl;exact hH;(repeat constructor);clear hH;rintro _ w hH)))|refine CT ?_|(refine DT ?_ ?_<;>intro hc<;>try (exfalso;omega))|(first|(refine DSK ?_;clear hA a;intro a hA)|(first|(refine DLT ?_;clear hA hH;rintro _ w ⟨oN,rfl,hH⟩;refine ⟨STT,?_⟩;intro a hA)|(refine DAT ?_;clear hA;rintro _ w ⟨oN,cN,rfl,hH2⟩;clear hH;have hH:=(hH2 _ (by (repeat constructor))).tail;clear hH2;refine ⟨STT,?_⟩;intro a hA))))
    · exact rt1 (.inl rfl) rfl hA rfl ⟨_,rfl,mayn_no2 (heq.trans (hfn fun h=>(by dsimp only at *;omega))),hH.kp⟩
    · exact rt1 (.inl rfl) rfl hA rfl ⟨_,rfl,mayn_no2 (heq.trans (hfn fun h=>(by dsimp only at *;omega))),hH.kp⟩
    have hxx:0≤xc∧xc≤4096:=by dsimp only at *;omega
    rw [hfy hxx] at heq
    (refine st_op hA rfl rfl (by decide) (op_makeMapK hH) ?_;clear hA hH;rintro _ w ⟨m1,rfl,hH⟩ a hA)
    (refine st_op hA rfl rfl (by decide) (op_makeMapK hH) ?_;clear hA hH;rintro _ w ⟨m2,rfl,hH⟩ a hA)
    repeat' (first|(first|(refine GT ?_ ?_<;>intro hg<;>clear hA a<;>intro a hA<;>(first|exact FA|replace hg:=dTr hg|replace hg:=dFa hg|skip))|(refine QT ?_;clear hA a;intro a hA)|(first|(refine BT ?_;clear hA hH;rintro _ w ⟨bN,rfl,hH⟩ a hA)|(refine LT ?_;clear hA hH;rintro _ w ⟨oN,rfl,hH⟩ a hA)|(refine AT ?_;clear hA;rintro _ w ⟨oN,cN,rfl,hH2⟩ a hA;clear hH;have hH:=(hH2 _ (by (repeat constructor))).tail;clear hH2)|(refine S0T ?_;clear hH;rintro _ w hH)|(apply st_op0 hA rfl rfl;apply op_insertK;rfl;rfl;rfl;exact hH;(repeat constructor);clear hH;rintro _ w hH)))|refine CT ?_|(refine DT ?_ ?_<;>intro hc<;>try (exfalso;omega))|(first|(refine DSK ?_;clear hA a;intro a hA)|(first|(refine DLT ?_;clear hA hH;rintro _ w ⟨oN,rfl,hH⟩;refine ⟨STT,?_⟩;intro a hA)|(refine DAT ?_;clear hA;rintro _ w ⟨oN,cN,rfl,hH2⟩;clear hH;have hH:=(hH2 _ (by (repeat constructor))).tail;clear hH2;refine ⟨STT,?_⟩;intro a hA))))
    (refine st_op hA rfl rfl (by decide) (op_makeMapI hH) ?_;clear hA hH;rintro _ w ⟨m3,rfl,hH⟩ a hA)
    (refine st_op hA rfl rfl (by decide) (op_makeMapK hH) ?_;clear hA hH;rintro _ w ⟨m4,rfl,hH⟩ a hA)
    have e01:sadd (sadd [] 0) 1=[0,1]:=by decide
    rw [e01] at hH
    repeat' (first|(first|(refine GT ?_ ?_<;>intro hg<;>clear hA a<;>intro a hA<;>(first|exact FA|replace hg:=dTr hg|replace hg:=dFa hg|skip))|(refine QT ?_;clear hA a;intro a hA)|(first|(refine BT ?_;clear hA hH;rintro _ w ⟨bN,rfl,hH⟩ a hA)|(refine LT ?_;clear hA hH;rintro _ w ⟨oN,rfl,hH⟩ a hA)|(refine AT ?_;clear hA;rintro _ w ⟨oN,cN,rfl,hH2⟩ a hA;clear hH;have hH:=(hH2 _ (by (repeat constructor))).tail;clear hH2)|(refine S0T ?_;clear hH;rintro _ w hH)|(apply st_op0 hA rfl rfl;apply op_store_fld (cs':=encKk ⟨oF,fl.length,cF,g,oA,fl.length,cA,xc,some m1,n,j,o⟩ p);rfl;rfl;rfl;exact hH;(repeat constructor);clear hH;rintro _ w hH)|(apply st_op0 hA rfl rfl;apply op_store_fld (cs':=encKk ⟨oF,fl.length,cF,g,oA,fl.length,cA,xc,some m1,some m2,j,o⟩ p);rfl;rfl;rfl;exact hH;(repeat constructor);clear hH;rintro _ w hH)|(apply st_op0 hA rfl rfl;apply op_store_fld (cs':=encKk ⟨oF,fl.length,cF,g,oA,fl.length,cA,xc,some m1,some m2,some m3,o⟩ p);rfl;rfl;rfl;exact hH;(repeat constructor);clear hH;rintro _ w hH)|(apply st_op0 hA rfl rfl;apply op_store_fld (cs':=encKk ⟨oF,fl.length,cF,g,oA,fl.length,cA,xc,some m1,some m2,some m3,some m4⟩ p);rfl;rfl;rfl;exact hH;(repeat constructor);clear hH;rintro _ w hH)))|refine CT ?_|(refine DT ?_ ?_<;>intro hc<;>try (exfalso;omega))|(first|(refine DSK ?_;clear hA a;intro a hA)|(first|(refine DLT ?_;clear hA hH;rintro _ w ⟨oN,rfl,hH⟩;refine ⟨STT,?_⟩;intro a hA)|(refine DAT ?_;clear hA;rintro _ w ⟨oN,cN,rfl,hH2⟩;clear hH;have hH:=(hH2 _ (by (repeat constructor))).tail;clear hH2;refine ⟨STT,?_⟩;intro a hA))))
    repeat' (first|(first|(refine GT ?_ ?_<;>intro hg<;>clear hA a<;>intro a hA<;>(first|exact FA|replace hg:=dTr hg|replace hg:=dFa hg|skip))|(refine XT ?_;apply XE;(first|(apply ex_load_st (vs:=encN (.mk k' x' xs' n' ns' r' va' ko' kc' kids'));rfl;rfl;exact cls_cb MEMT (sub_bdN ⟨xc,.mk k' x' xs' n' ns' r' va' ko' kc' kids'⟩)));clear hA a;intro a hA)|(refine QT ?_;clear hA a;intro a hA)|(first|(refine BT ?_;clear hA hH;rintro _ w ⟨bN,rfl,hH⟩ a hA)|(refine LT ?_;clear hA hH;rintro _ w ⟨oN,rfl,hH⟩ a hA)|(refine AT ?_;clear hA;rintro _ w ⟨oN,cN,rfl,hH2⟩ a hA;clear hH;have hH:=(hH2 _ (by (repeat constructor))).tail;clear hH2)|(refine S0T ?_;clear hH;rintro _ w hH)))|refine CT ?_|(refine DT ?_ ?_<;>intro hc<;>try (exfalso;omega))|(first|(refine DSK ?_;clear hA a;intro a hA)|(first|(refine DLT ?_;clear hA hH;rintro _ w ⟨oN,rfl,hH⟩;refine ⟨STT,?_⟩;intro a hA)|(refine DAT ?_;clear hA;rintro _ w ⟨oN,cN,rfl,hH2⟩;clear hH;have hH:=(hH2 _ (by (repeat constructor))).tail;clear hH2;refine ⟨STT,?_⟩;intro a hA))))
    have hs0:=cs0_ok hp0 hp1
    have hBC:=bodyC_all w0 ⟨oF,fl.length,cF,g,oA,fl.length,cA,xc,some m1,some m2,some m3,some m4⟩ (capsN fl) bK m1 m2 m3 m4 rfl rfl rfl rfl hcsl.symm (by omega) hrx
    obtain ⟨bF,hbF⟩:∃x,x=bN:=⟨_,rfl⟩
    rw [←hbF] at hA hH
    clear hbF bN
    (refine st_op hA rfl rfl (by decide) (op_call rfl rfl rfl (hBC [own 3 1 oA fl.length cA (flat Fw.encI (capsN fl)),cb bF 72 (encFn ⟨xc,.mk k' x' xs' n' ns' r' va' ko' kc' kids'⟩),cb b1 34 (encP oF fl.length cF g)] _ 1 (cs0 p) (.head _) hs0 (by omega) (by omega) (hH.perm PMT))) ?_;clear hA hH)
    rintro _ w (⟨s',he,rfl,hH⟩| ⟨he,rfl,s',hH⟩) a hA
    · have he':bodyF g (capsN fl) xc (.mk k' x' xs' n' ns' r' va' ko' kc' kids') 1 (cs0 p)=some s':=he
      have hs':=bodyF_ok _ _ _ _ hs0 he'
      rw [he',Option.bind_some] at heq
      repeat' (first|(first|(refine GT ?_ ?_<;>intro hg<;>clear hA a<;>intro a hA<;>(first|exact FA|replace hg:=dTr hg|replace hg:=dFa hg|skip))|(refine QT ?_;clear hA a;intro a hA)|(first|(refine BT ?_;clear hA hH;rintro _ w ⟨bN,rfl,hH⟩ a hA)|(refine LT ?_;clear hA hH;rintro _ w ⟨oN,rfl,hH⟩ a hA)|(refine AT ?_;clear hA;rintro _ w ⟨oN,cN,rfl,hH2⟩ a hA;clear hH;have hH:=(hH2 _ (by (repeat constructor))).tail;clear hH2)|(refine S0T ?_;clear hH;rintro _ w hH)))|refine CT ?_|(refine DT ?_ ?_<;>intro hc<;>try (exfalso;omega))|(first|(refine DSK ?_;clear hA a;intro a hA)|(first|(refine DLT ?_;clear hA hH;rintro _ w ⟨oN,rfl,hH⟩;refine ⟨STT,?_⟩;intro a hA)|(refine DAT ?_;clear hA;rintro _ w ⟨oN,cN,rfl,hH2⟩;clear hH;have hH:=(hH2 _ (by (repeat constructor))).tail;clear hH2;refine ⟨STT,?_⟩;intro a hA))))
      exact ⟨i+1,⟨xc,_,_,_,_,s'.p,⟨hlt,hs'.p0,hs'.p1,hcn hxx,heq⟩,(hH.rm 1 |>.rm 1 |>.rm 1 |>.rm 1 |>.rm 2),(hA.sub SBT)⟩,by omega⟩
    · have he':bodyF g (capsN fl) xc (.mk k' x' xs' n' ns' r' va' ko' kc' kids') 1 (cs0 p)=none:=he
      rw [he',Option.bind_none] at heq
      repeat' (first|(first|(refine GT ?_ ?_<;>intro hg<;>clear hA a<;>intro a hA<;>(first|exact FA|replace hg:=dTr hg|replace hg:=dFa hg|skip))|(refine QT ?_;clear hA a;intro a hA)|(first|(refine BT ?_;clear hA hH;rintro _ w ⟨bN,rfl,hH⟩ a hA)|(refine LT ?_;clear hA hH;rintro _ w ⟨oN,rfl,hH⟩ a hA)|(refine AT ?_;clear hA;rintro _ w ⟨oN,cN,rfl,hH2⟩ a hA;clear hH;have hH:=(hH2 _ (by (repeat constructor))).tail;clear hH2)|(refine S0T ?_;clear hH;rintro _ w hH)))|refine CT ?_|(refine DT ?_ ?_<;>intro hc<;>try (exfalso;omega))|(first|(refine DSK ?_;clear hA a;intro a hA)|(first|(refine DLT ?_;clear hA hH;rintro _ w ⟨oN,rfl,hH⟩;refine ⟨STT,?_⟩;intro a hA)|(refine DAT ?_;clear hA;rintro _ w ⟨oN,cN,rfl,hH2⟩;clear hH;have hH:=(hH2 _ (by (repeat constructor))).tail;clear hH2;refine ⟨STT,?_⟩;intro a hA))))
      exact rt1 (.inl rfl) rfl hA rfl ⟨_,rfl,mayn_no2 heq,hH.kp⟩
  clear hA hH
  rintro a w ⟨⟨hcap,hfu⟩,hH,hA⟩
  repeat' (first|(first|(refine GT ?_ ?_<;>intro hg<;>clear hA a<;>intro a hA<;>(first|exact FA|replace hg:=dTr hg|replace hg:=dFa hg|skip))|(refine QT ?_;clear hA a;intro a hA)|(first|(refine BT ?_;clear hA hH;rintro _ w ⟨bN,rfl,hH⟩ a hA)|(refine LT ?_;clear hA hH;rintro _ w ⟨oN,rfl,hH⟩ a hA)|(refine AT ?_;clear hA;rintro _ w ⟨oN,cN,rfl,hH2⟩ a hA;clear hH;have hH:=(hH2 _ (by (repeat constructor))).tail;clear hH2)|(refine S0T ?_;clear hH;rintro _ w hH)))|refine CT ?_|(refine DT ?_ ?_<;>intro hc<;>try (exfalso;omega))|(first|(refine DSK ?_;clear hA a;intro a hA)|(first|(refine DLT ?_;clear hA hH;rintro _ w ⟨oN,rfl,hH⟩;refine ⟨STT,?_⟩;intro a hA)|(refine DAT ?_;clear hA;rintro _ w ⟨oN,cN,rfl,hH2⟩;clear hH;have hH:=(hH2 _ (by (repeat constructor))).tail;clear hH2;refine ⟨STT,?_⟩;intro a hA))))
  exact rt1 (.inl rfl) rfl hA rfl ⟨_,rfl,iff_of_true rfl ⟨⟨hcl2,hcl4,hc0,hp1,hp2,hp3,hx4,hss4,hcap⟩,hfu⟩,hH.kp⟩
end
mutual
def partsB:AN→Int→Int
  | .mk _ _ _ _ _ r a _ _ kids,most=>partsK kids most (1+a.l.length+r.a.l.length)
def partsK:List AN→Int→Int→Int
  | [],_,n=>n
  |b::l,most,n=>if n<most then partsK l most (n+partsB b (most - n)) else n
end
theorem partsK_stop {l:List AN} {most n:Int} (h:¬n<most):partsK l most n=n:=by
  cases l with
  |nil=>rw [partsK]
  |cons b l=>rw [partsK,if_neg h]
theorem partsK_at {l:List AN} {i:Nat} {b:AN} {most n:Int} (h:l[i]?=some b) (hn:n<most):partsK (l.drop i) most n=partsK (l.drop (i+1)) most (n+partsB b (most - n)):=by
  obtain ⟨hi,rfl⟩:=List.getElem?_eq_some_iff.1 h
  rw [List.drop_eq_getElem_cons hi,partsK,if_pos hn]
def progK:List FN→Int→Int→Int
  | [],_,n=>n
  |f::l,most,n=>if n<most then progK l most (n+partsB f.body (most - n)) else n
theorem progK_stop {l:List FN} {most n:Int} (h:¬n<most):progK l most n=n:=by
  cases l with
  |nil=>rw [progK]
  |cons b l=>rw [progK,if_neg h]
theorem progK_at {l:List FN} {i:Nat} {f:FN} {most n:Int} (h:l[i]?=some f) (hn:n<most):progK (l.drop i) most n=progK (l.drop (i+1)) most (n+partsB f.body (most - n)):=by
  obtain ⟨hi,rfl⟩:=List.getElem?_eq_some_iff.1 h
  rw [List.drop_eq_getElem_cons hi,progK,if_pos hn]
theorem fn_body {l:List FN} {i:Nat} {f:FN} (h:l[i]?=some f) (j:Nat) (v:Value) (hv:(encN f.body)[j]?=some v):(flat encFn l)[i*12+1+j]?=some v:=by
  rw [Nat.add_assoc]
  exact flat_get (off:=1+j) encFn_len h (by unfold encFn;rw [Nat.add_comm];exact hv)
section
attribute [local irreducible] Code.wp wpList Calls Ex Op1 sat bat blk cb own Go.Fw.mp Go.Fw.mpO Go.Fw.mpI Go.Fw.mpE Go.Fw.itr HS Rd Ret wkD Hp Cl Cls Exit.then Exit.inBlock Exit.noGoto bodyPost Go.Fw.flat wk2 Go.Fw.all Go.Fw.owns wpOp
attribute [local irreducible] sk mpK sko mvO entK

theorem bodyParts_spec {wr:World} {b:AN} (hR:RdN wr b):∀(w0:World) (most:Int),Kp wr noM w0→1≤most→most≤1000000→(0≤partsB b most∧partsB b most≤most+70368744177664)∧Ret Tryz.prog 72 #[.agg (encN b).toArray,.int .i64 most] w0 (fun r w=>r= .int .i64 (partsB b most)∧Kp w0 noM w):=by
  induction hR with
  | @mk k x n xs ns r va ko kc kids h1 h2 h3 h4 h5 h6 h7 ih=>
  intro w0 most hkp hm1 hm2
  have hal:=h5.2
  have hrl:=h4.2
  have hkl:=h6.2
  have hkr:=h6.1.keep hkp
  have hkey:∀(l:List AN),(∀b∈l,b∈kids)→∀n,0≤n→n≤most+70368744177664→0≤partsK l most n∧partsK l most n≤most+70368744177664:=by
    intro l
    induction l with
    |nil=>intro _ n h0 h1;rw [partsK];exact ⟨h0,h1⟩
    | cons b l ihl=>
      intro hl n h0 h1
      rw [partsK]
      split
      · next hn=>
        have h8:=(ih b (hl b (List.Mem.head _)) w0 (most - n) hkp (by omega) (by omega)).1
        exact ihl (fun b hb=>hl b (List.Mem.tail _ hb)) _ (by omega) (by omega)
      · exact ⟨h0,h1⟩
  refine ⟨by rw [partsB];exact hkey kids (fun b h=>h) _ (by omega) (by omega),?_⟩
  rw [partsB]
  have hsp:Sp ko kids.length:=hkr.1.sp (sz:=11) (flat_length encN_len _) (by omega)
  have hH:HS w0 noM [] w0:=HS.init w0 noM
  (refine ENT (N:=40) Tryz.func72 Tryz.ntmps72 ?_;intro a hA)
  repeat refine CT ?_
  (refine BT ?_;clear hA hH;rintro _ w ⟨b2,rfl,hH⟩ a hA)
  repeat' (first|(first|(refine GT ?_ ?_<;>intro hg<;>clear hA a<;>intro a hA<;>(first|exact FA|replace hg:=dTr hg|replace hg:=dFa hg|skip))|(refine QT ?_;clear hA a;intro a hA)|(first|(refine BT ?_;clear hA hH;rintro _ w ⟨bN,rfl,hH⟩ a hA)|(refine LT ?_;clear hA hH;rintro _ w ⟨oN,rfl,hH⟩ a hA)|(refine AT ?_;clear hA;rintro _ w ⟨oN,cN,rfl,hH2⟩ a hA;clear hH;have hH:=(hH2 _ (by (repeat constructor))).tail;clear hH2)|(refine S0T ?_;clear hH;rintro _ w hH)))|refine CT ?_|(refine DT ?_ ?_<;>intro hc<;>try (exfalso;omega))|(first|(refine DSK ?_;clear hA a;intro a hA)|(first|(refine DLT ?_;clear hA hH;rintro _ w ⟨oN,rfl,hH⟩;refine ⟨STT,?_⟩;intro a hA)|(refine DAT ?_;clear hA;rintro _ w ⟨oN,cN,rfl,hH2⟩;clear hH;have hH:=(hH2 _ (by (repeat constructor))).tail;clear hH2;refine ⟨STT,?_⟩;intro a hA))))
  refine wp_lpk (S:=Nat × Int) (fun t a w=>(t.1≤kids.length∧0≤t.2∧t.2≤most+70368744177664∧partsK kids most (1+va.l.length+r.a.l.length)=partsK (kids.drop t.1) most t.2)∧HS w0 noM [cb b2 70 (encN (.mk k x xs n ns r va ko kc kids))] w∧Sl 40 [(6,.int .i64 t.1),(5,.int .i64 t.2),(2,.pointer (some (bat b2 0))),(1,.int .i64 most)] a) (fun t=>kids.length - t.1)
    (fun a w=>HS w0 noM [] w∧Sl 40 [(5,.int .i64 (partsK kids most (1+va.l.length+r.a.l.length)))] a) (0,1+va.l.length+r.a.l.length) ⟨⟨Nat.zero_le _,by dsimp only;omega,by dsimp only;omega,rfl⟩,hH,(hA.sub SBT)⟩ ?_ ?_
  · clear hA hH
    rintro ⟨i,m⟩ a w ⟨⟨hi,hm0,hm3,heq⟩,hH,hA⟩
    dsimp only at hi hm0 hm3 heq hH hA ⊢
    by_cases hlt:i<kids.length
    rotate_left
    · obtain rfl:i=kids.length:=by omega
      rw [List.drop_length,partsK] at heq
      rw [heq]
      repeat' (first|(first|(refine GT ?_ ?_<;>intro hg<;>clear hA a<;>intro a hA<;>(first|exact FA|replace hg:=dTr hg|replace hg:=dFa hg|skip))|(refine QT ?_;clear hA a;intro a hA)|(first|(refine BT ?_;clear hA hH;rintro _ w ⟨bN,rfl,hH⟩ a hA)|(refine LT ?_;clear hA hH;rintro _ w ⟨oN,rfl,hH⟩ a hA)|(refine AT ?_;clear hA;rintro _ w ⟨oN,cN,rfl,hH2⟩ a hA;clear hH;have hH:=(hH2 _ (by (repeat constructor))).tail;clear hH2)|(refine S0T ?_;clear hH;rintro _ w hH)))|refine CT ?_|(refine DT ?_ ?_<;>intro hc<;>try (exfalso;omega))|(first|(refine DSK ?_;clear hA a;intro a hA)|(first|(refine DLT ?_;clear hA hH;rintro _ w ⟨oN,rfl,hH⟩;refine ⟨STT,?_⟩;intro a hA)|(refine DAT ?_;clear hA;rintro _ w ⟨oN,cN,rfl,hH2⟩;clear hH;have hH:=(hH2 _ (by (repeat constructor))).tail;clear hH2;refine ⟨STT,?_⟩;intro a hA))))
      exact ⟨hH.tail,(hA.sub SBT)⟩
    obtain ⟨y,hy⟩:∃y,kids[i]?=some y:=⟨_,List.getElem?_eq_getElem hlt⟩
    have hvs:=flat_all encN_len hy
    have hb:=ih y (List.mem_of_getElem? hy)
    by_cases hmm:m<most
    rotate_left
    · rw [partsK_stop hmm] at heq
      rw [heq]
      repeat' (first|(first|(refine GT ?_ ?_<;>intro hg<;>clear hA a<;>intro a hA<;>(first|exact FA|replace hg:=dTr hg|replace hg:=dFa hg|skip))|(refine QT ?_;clear hA a;intro a hA)|(first|(refine BT ?_;clear hA hH;rintro _ w ⟨bN,rfl,hH⟩ a hA)|(refine LT ?_;clear hA hH;rintro _ w ⟨oN,rfl,hH⟩ a hA)|(refine AT ?_;clear hA;rintro _ w ⟨oN,cN,rfl,hH2⟩ a hA;clear hH;have hH:=(hH2 _ (by (repeat constructor))).tail;clear hH2)|(refine S0T ?_;clear hH;rintro _ w hH)))|refine CT ?_|(refine DT ?_ ?_<;>intro hc<;>try (exfalso;omega))|(first|(refine DSK ?_;clear hA a;intro a hA)|(first|(refine DLT ?_;clear hA hH;rintro _ w ⟨oN,rfl,hH⟩;refine ⟨STT,?_⟩;intro a hA)|(refine DAT ?_;clear hA;rintro _ w ⟨oN,cN,rfl,hH2⟩;clear hH;have hH:=(hH2 _ (by (repeat constructor))).tail;clear hH2;refine ⟨STT,?_⟩;intro a hA))))
      exact ⟨hH.tail,(hA.sub SBT)⟩
    rw [partsK_at hy hmm] at heq
    have h8:=(hb w (most - m) (hkp.trans hH.kp (fun b h=>absurd h id)) (by omega) (by omega))
    obtain ⟨k',x',xs',n',ns',r',va',ko',kc',kids'⟩:=y
    repeat' (first|(first|(refine GT ?_ ?_<;>intro hg<;>clear hA a<;>intro a hA<;>(first|exact FA|replace hg:=dTr hg|replace hg:=dFa hg|skip))|(refine XT ?_;apply XE;(first|(apply ex_indexAddr_nat;rfl;rfl;omega;exact hsp)|(apply ex_load_st (vs:=encN (.mk k' x' xs' n' ns' r' va' ko' kc' kids'));rfl;rfl;exact cls_rd hkr.1 id hvs));clear hA a;intro a hA)|(refine QT ?_;clear hA a;intro a hA)|(first|(refine BT ?_;clear hA hH;rintro _ w ⟨bN,rfl,hH⟩ a hA)|(refine LT ?_;clear hA hH;rintro _ w ⟨oN,rfl,hH⟩ a hA)|(refine AT ?_;clear hA;rintro _ w ⟨oN,cN,rfl,hH2⟩ a hA;clear hH;have hH:=(hH2 _ (by (repeat constructor))).tail;clear hH2)|(refine S0T ?_;clear hH;rintro _ w hH)))|refine CT ?_|(refine DT ?_ ?_<;>intro hc<;>try (exfalso;omega))|(first|(refine DSK ?_;clear hA a;intro a hA)|(first|(refine DLT ?_;clear hA hH;rintro _ w ⟨oN,rfl,hH⟩;refine ⟨STT,?_⟩;intro a hA)|(refine DAT ?_;clear hA;rintro _ w ⟨oN,cN,rfl,hH2⟩;clear hH;have hH:=(hH2 _ (by (repeat constructor))).tail;clear hH2;refine ⟨STT,?_⟩;intro a hA))))
    (refine st_op hA rfl rfl (by decide) (op_call rfl rfl rfl h8.2) ?_;clear hA;rintro _ w ⟨rfl,hk⟩ a hA;replace hH:=hH.keep hk;clear hk)
    repeat' (first|(first|(refine GT ?_ ?_<;>intro hg<;>clear hA a<;>intro a hA<;>(first|exact FA|replace hg:=dTr hg|replace hg:=dFa hg|skip))|(refine QT ?_;clear hA a;intro a hA)|(first|(refine BT ?_;clear hA hH;rintro _ w ⟨bN,rfl,hH⟩ a hA)|(refine LT ?_;clear hA hH;rintro _ w ⟨oN,rfl,hH⟩ a hA)|(refine AT ?_;clear hA;rintro _ w ⟨oN,cN,rfl,hH2⟩ a hA;clear hH;have hH:=(hH2 _ (by (repeat constructor))).tail;clear hH2)|(refine S0T ?_;clear hH;rintro _ w hH)))|refine CT ?_|(refine DT ?_ ?_<;>intro hc<;>try (exfalso;omega))|(first|(refine DSK ?_;clear hA a;intro a hA)|(first|(refine DLT ?_;clear hA hH;rintro _ w ⟨oN,rfl,hH⟩;refine ⟨STT,?_⟩;intro a hA)|(refine DAT ?_;clear hA;rintro _ w ⟨oN,cN,rfl,hH2⟩;clear hH;have hH:=(hH2 _ (by (repeat constructor))).tail;clear hH2;refine ⟨STT,?_⟩;intro a hA))))
    exact ⟨(i+1,_),⟨⟨hlt,by dsimp only;omega,by dsimp only;omega,heq⟩,hH,(hA.sub SBT)⟩,by dsimp only;omega⟩
  clear hA hH
  rintro a w ⟨hH,hA⟩
  repeat' (first|(first|(refine GT ?_ ?_<;>intro hg<;>clear hA a<;>intro a hA<;>(first|exact FA|replace hg:=dTr hg|replace hg:=dFa hg|skip))|(refine QT ?_;clear hA a;intro a hA)|(first|(refine BT ?_;clear hA hH;rintro _ w ⟨bN,rfl,hH⟩ a hA)|(refine LT ?_;clear hA hH;rintro _ w ⟨oN,rfl,hH⟩ a hA)|(refine AT ?_;clear hA;rintro _ w ⟨oN,cN,rfl,hH2⟩ a hA;clear hH;have hH:=(hH2 _ (by (repeat constructor))).tail;clear hH2)|(refine S0T ?_;clear hH;rintro _ w hH)))|refine CT ?_|(refine DT ?_ ?_<;>intro hc<;>try (exfalso;omega))|(first|(refine DSK ?_;clear hA a;intro a hA)|(first|(refine DLT ?_;clear hA hH;rintro _ w ⟨oN,rfl,hH⟩;refine ⟨STT,?_⟩;intro a hA)|(refine DAT ?_;clear hA;rintro _ w ⟨oN,cN,rfl,hH2⟩;clear hH;have hH:=(hH2 _ (by (repeat constructor))).tail;clear hH2;refine ⟨STT,?_⟩;intro a hA))))
  exact rt1 (.inl rfl) rfl hA rfl ⟨rfl,hH.kp⟩
theorem PartsN_spec (w0:World) (oF:Option Addr) (cF:Nat) (fl:List FN) (g:Grs) (most:Int) (hF:Rd w0 oF (flat encFn fl)) (hr:∀f∈fl,RdN w0 f.body) (hcl:fl.length≤17592186044416) (hm1:1≤most) (hm2:most≤1000000) :
    Ret Tryz.prog 38 #[.agg (encP oF fl.length cF g).toArray,.int .i64 most] w0 (fun r w=>r= .int .i64 (progK fl most 0)∧Kp w0 noM w):=by
  have hsp:Sp oF fl.length:=hF.sp (sz:=12) (flat_length encFn_len _) (by omega)
  have hH:HS w0 noM [] w0:=HS.init w0 noM
  (refine ENT (N:=32) Tryz.func38 Tryz.ntmps38 ?_;intro a hA)
  repeat refine CT ?_
  (refine BT ?_;clear hA hH;rintro _ w ⟨b2,rfl,hH⟩ a hA)
  repeat' (first|(first|(refine GT ?_ ?_<;>intro hg<;>clear hA a<;>intro a hA<;>(first|exact FA|replace hg:=dTr hg|replace hg:=dFa hg|skip))|(refine QT ?_;clear hA a;intro a hA)|(first|(refine BT ?_;clear hA hH;rintro _ w ⟨bN,rfl,hH⟩ a hA)|(refine LT ?_;clear hA hH;rintro _ w ⟨oN,rfl,hH⟩ a hA)|(refine AT ?_;clear hA;rintro _ w ⟨oN,cN,rfl,hH2⟩ a hA;clear hH;have hH:=(hH2 _ (by (repeat constructor))).tail;clear hH2)|(refine S0T ?_;clear hH;rintro _ w hH)))|refine CT ?_|(refine DT ?_ ?_<;>intro hc<;>try (exfalso;omega))|(first|(refine DSK ?_;clear hA a;intro a hA)|(first|(refine DLT ?_;clear hA hH;rintro _ w ⟨oN,rfl,hH⟩;refine ⟨STT,?_⟩;intro a hA)|(refine DAT ?_;clear hA;rintro _ w ⟨oN,cN,rfl,hH2⟩;clear hH;have hH:=(hH2 _ (by (repeat constructor))).tail;clear hH2;refine ⟨STT,?_⟩;intro a hA))))
  refine wp_lpk (S:=Nat × Int) (fun t a w=>(t.1≤fl.length∧0≤t.2∧t.2≤most+70368744177664∧progK fl most 0=progK (fl.drop t.1) most t.2)∧HS w0 noM [cb b2 34 (encP oF fl.length cF g)] w∧Sl 32 [(6,.int .i64 t.1),(5,.int .i64 t.2),(2,.pointer (some (bat b2 0))),(1,.int .i64 most)] a) (fun t=>fl.length - t.1)
    (fun a w=>HS w0 noM [] w∧Sl 32 [(5,.int .i64 (progK fl most 0))] a) (0,0) ⟨⟨Nat.zero_le _,by dsimp only;omega,by dsimp only;omega,rfl⟩,hH,(hA.sub SBT)⟩ ?_ ?_
  · clear hA hH
    rintro ⟨i,m⟩ a w ⟨⟨hi,hm0,hm3,heq⟩,hH,hA⟩
    dsimp only at hi hm0 hm3 heq hH hA ⊢
    by_cases hlt:i<fl.length
    rotate_left
    · obtain rfl:i=fl.length:=by omega
      rw [List.drop_length,progK] at heq
      rw [heq]
      repeat' (first|(first|(refine GT ?_ ?_<;>intro hg<;>clear hA a<;>intro a hA<;>(first|exact FA|replace hg:=dTr hg|replace hg:=dFa hg|skip))|(refine QT ?_;clear hA a;intro a hA)|(first|(refine BT ?_;clear hA hH;rintro _ w ⟨bN,rfl,hH⟩ a hA)|(refine LT ?_;clear hA hH;rintro _ w ⟨oN,rfl,hH⟩ a hA)|(refine AT ?_;clear hA;rintro _ w ⟨oN,cN,rfl,hH2⟩ a hA;clear hH;have hH:=(hH2 _ (by (repeat constructor))).tail;clear hH2)|(refine S0T ?_;clear hH;rintro _ w hH)))|refine CT ?_|(refine DT ?_ ?_<;>intro hc<;>try (exfalso;omega))|(first|(refine DSK ?_;clear hA a;intro a hA)|(first|(refine DLT ?_;clear hA hH;rintro _ w ⟨oN,rfl,hH⟩;refine ⟨STT,?_⟩;intro a hA)|(refine DAT ?_;clear hA;rintro _ w ⟨oN,cN,rfl,hH2⟩;clear hH;have hH:=(hH2 _ (by (repeat constructor))).tail;clear hH2;refine ⟨STT,?_⟩;intro a hA))))
      exact ⟨hH.tail,(hA.sub SBT)⟩
    obtain ⟨y,hy⟩:∃y,fl[i]?=some y:=⟨_,List.getElem?_eq_getElem hlt⟩
    have hvs:=fn_body hy
    by_cases hmm:m<most
    rotate_left
    · rw [progK_stop hmm] at heq
      rw [heq]
      repeat' (first|(first|(refine GT ?_ ?_<;>intro hg<;>clear hA a<;>intro a hA<;>(first|exact FA|replace hg:=dTr hg|replace hg:=dFa hg|skip))|(refine QT ?_;clear hA a;intro a hA)|(first|(refine BT ?_;clear hA hH;rintro _ w ⟨bN,rfl,hH⟩ a hA)|(refine LT ?_;clear hA hH;rintro _ w ⟨oN,rfl,hH⟩ a hA)|(refine AT ?_;clear hA;rintro _ w ⟨oN,cN,rfl,hH2⟩ a hA;clear hH;have hH:=(hH2 _ (by (repeat constructor))).tail;clear hH2)|(refine S0T ?_;clear hH;rintro _ w hH)))|refine CT ?_|(refine DT ?_ ?_<;>intro hc<;>try (exfalso;omega))|(first|(refine DSK ?_;clear hA a;intro a hA)|(first|(refine DLT ?_;clear hA hH;rintro _ w ⟨oN,rfl,hH⟩;refine ⟨STT,?_⟩;intro a hA)|(refine DAT ?_;clear hA;rintro _ w ⟨oN,cN,rfl,hH2⟩;clear hH;have hH:=(hH2 _ (by (repeat constructor))).tail;clear hH2;refine ⟨STT,?_⟩;intro a hA))))
      exact ⟨hH.tail,(hA.sub SBT)⟩
    rw [progK_at hy hmm] at heq
    have h8:=bodyParts_spec (hr y (List.mem_of_getElem? hy)) w (most - m) hH.kp (by omega) (by omega)
    obtain ⟨yc,⟨k',x',xs',n',ns',r',va',ko',kc',kids'⟩⟩:=y
    dsimp only at hvs h8 heq
    repeat' (first|(first|(refine GT ?_ ?_<;>intro hg<;>clear hA a<;>intro a hA<;>(first|exact FA|replace hg:=dTr hg|replace hg:=dFa hg|skip))|(refine XT ?_;apply XE;(first|(apply ex_indexAddr_nat;rfl;rfl;omega;exact hsp)|(apply ex_load_st (vs:=encN (.mk k' x' xs' n' ns' r' va' ko' kc' kids'));rfl;rfl;exact cls_rd hF id hvs));clear hA a;intro a hA)|(refine QT ?_;clear hA a;intro a hA)|(first|(refine BT ?_;clear hA hH;rintro _ w ⟨bN,rfl,hH⟩ a hA)|(refine LT ?_;clear hA hH;rintro _ w ⟨oN,rfl,hH⟩ a hA)|(refine AT ?_;clear hA;rintro _ w ⟨oN,cN,rfl,hH2⟩ a hA;clear hH;have hH:=(hH2 _ (by (repeat constructor))).tail;clear hH2)|(refine S0T ?_;clear hH;rintro _ w hH)))|refine CT ?_|(refine DT ?_ ?_<;>intro hc<;>try (exfalso;omega))|(first|(refine DSK ?_;clear hA a;intro a hA)|(first|(refine DLT ?_;clear hA hH;rintro _ w ⟨oN,rfl,hH⟩;refine ⟨STT,?_⟩;intro a hA)|(refine DAT ?_;clear hA;rintro _ w ⟨oN,cN,rfl,hH2⟩;clear hH;have hH:=(hH2 _ (by (repeat constructor))).tail;clear hH2;refine ⟨STT,?_⟩;intro a hA))))
    (refine st_op hA rfl rfl (by decide) (op_call rfl rfl rfl h8.2) ?_;clear hA;rintro _ w ⟨rfl,hk⟩ a hA;replace hH:=hH.keep hk;clear hk)
    repeat' (first|(first|(refine GT ?_ ?_<;>intro hg<;>clear hA a<;>intro a hA<;>(first|exact FA|replace hg:=dTr hg|replace hg:=dFa hg|skip))|(refine QT ?_;clear hA a;intro a hA)|(first|(refine BT ?_;clear hA hH;rintro _ w ⟨bN,rfl,hH⟩ a hA)|(refine LT ?_;clear hA hH;rintro _ w ⟨oN,rfl,hH⟩ a hA)|(refine AT ?_;clear hA;rintro _ w ⟨oN,cN,rfl,hH2⟩ a hA;clear hH;have hH:=(hH2 _ (by (repeat constructor))).tail;clear hH2)|(refine S0T ?_;clear hH;rintro _ w hH)))|refine CT ?_|(refine DT ?_ ?_<;>intro hc<;>try (exfalso;omega))|(first|(refine DSK ?_;clear hA a;intro a hA)|(first|(refine DLT ?_;clear hA hH;rintro _ w ⟨oN,rfl,hH⟩;refine ⟨STT,?_⟩;intro a hA)|(refine DAT ?_;clear hA;rintro _ w ⟨oN,cN,rfl,hH2⟩;clear hH;have hH:=(hH2 _ (by (repeat constructor))).tail;clear hH2;refine ⟨STT,?_⟩;intro a hA))))
    exact ⟨(i+1,_),⟨⟨hlt,by dsimp only;omega,by dsimp only;omega,heq⟩,hH,(hA.sub SBT)⟩,by dsimp only;omega⟩
  clear hA hH
  rintro a w ⟨hH,hA⟩
  repeat' (first|(first|(refine GT ?_ ?_<;>intro hg<;>clear hA a<;>intro a hA<;>(first|exact FA|replace hg:=dTr hg|replace hg:=dFa hg|skip))|(refine QT ?_;clear hA a;intro a hA)|(first|(refine BT ?_;clear hA hH;rintro _ w ⟨bN,rfl,hH⟩ a hA)|(refine LT ?_;clear hA hH;rintro _ w ⟨oN,rfl,hH⟩ a hA)|(refine AT ?_;clear hA;rintro _ w ⟨oN,cN,rfl,hH2⟩ a hA;clear hH;have hH:=(hH2 _ (by (repeat constructor))).tail;clear hH2)|(refine S0T ?_;clear hH;rintro _ w hH)))|refine CT ?_|(refine DT ?_ ?_<;>intro hc<;>try (exfalso;omega))|(first|(refine DSK ?_;clear hA a;intro a hA)|(first|(refine DLT ?_;clear hA hH;rintro _ w ⟨oN,rfl,hH⟩;refine ⟨STT,?_⟩;intro a hA)|(refine DAT ?_;clear hA;rintro _ w ⟨oN,cN,rfl,hH2⟩;clear hH;have hH:=(hH2 _ (by (repeat constructor))).tail;clear hH2;refine ⟨STT,?_⟩;intro a hA))))
  exact rt1 (.inl rfl) rfl hA rfl ⟨rfl,hH.kp⟩
end
end Go.Proofs.YtenlcdokaadobaaGreatDoor
namespace Go.Fw
open Go Go.RowKit
set_option linter.unusedVariables false
section
variable {P:Program} {N:Nat} {l:List (Nat × Value)} {d:Option Tmp} {T:TypeId} {pos:String} {af:Array Edge} {g:Option (Nat × Bool)}
theorem op_copy0 {t e sz by_ m nd cd cs:Nat} {z:Value} {zs:List Value} {od ox:Option Addr} {x y:Operand} {ty:TypeId} {w0 w:World} {M:Nat→Prop} {H:List It} [ht:TSl P t e] [hi:TIf P e z zs sz by_]
    (hx:ev l x=some (.slice od nd cd)) (hy:ev l y=some (.slice ox m cs)) (hH:HS w0 M H w) (hn0:Nat.min m nd=0) :
    Op1 P N l ⟨d,.call ⟨.builtin .copy,#[x,y],#[t,ty]⟩,T,pos,af,g⟩ w (fun v w'=>v= .int .i64 0∧HS w0 M H w'):=by
  intro a hA K Q hK
  obtain ⟨ti,h3,h4,h5,h6⟩:=hi.eq
  unfold Oper.wp
  have hrun:(Builtin.copy_ #[t,ty] T #[.slice od nd cd,.slice ox m cs]).run P w= .ok (.int .i64 0) w:=by
    have hl:∀(x:Addr),(loadCells x 0).run P w= .ok #[] w:=fun x=>by simpa using run_loadCells_list (P:=P) w x [] (by simp)
    cases od<;>cases ox<;>simp [Builtin.copy_,run_underlying ht.eq,Builtin.lenOf,Builtin.firstCells,sizeOf,typeInfo,h3,h5,hn0,storeCells,hl,goInt]
  simp only [execOp,resolve,invoke,builtin,Sem.run_bind,Sem.run_pure,Result.andThen_ok,List.map_toArray,List.map_cons,List.map_nil,hA.ev hx,hA.ev hy,hrun,Oper.upon]
  exact hK _ _ ⟨rfl,hH⟩
end
end Go.Fw
namespace Go.Proofs.YtenlcdokaadobaaGreatDoor
open Go Go.Fw
set_option linter.unusedVariables false
theorem rd_nilN {w:World} {o:Option Addr} {xs:List Value} (h:Rd w o xs) (ho:o=none):xs=[]:=by
  rcases Nat.eq_zero_or_pos xs.length with h0|h0
  · exact List.length_eq_zero_iff.1 h0
  · obtain ⟨b,k,e⟩:=h.1 h0
    rw [ho] at e
    cases e
theorem rd_cellsN {w:World} {b k:Nat} {xs:List Value} (h:Rd w (some ⟨b,k,none⟩) xs):∀j u,xs[j]?=some u→w.cell? ((⟨b,k,none⟩:Addr).add j)=some u:=fun j u hj=>by
  have h1:=h.2 j u hj
  rwa [←add_eq_sat] at h1
theorem rd_someN {w:World} {o:Option Addr} {xs:List Value} (h:Rd w o xs) (hl:0<xs.length):∃b k,o=some ⟨b,k,none⟩:=h.1 hl
section
attribute [local irreducible] Code.wp wpList Calls Ex Op1 sat bat blk cb own Go.Fw.mp Go.Fw.mpO Go.Fw.mpI Go.Fw.mpE Go.Fw.itr HS Rd Ret wkD Hp Cl Cls Exit.then Exit.inBlock Exit.noGoto bodyPost Go.Fw.flat wk2 Go.Fw.all Go.Fw.owns wpOp
attribute [local irreducible] sk mpK sko mvO entK

theorem cloneI_spec (w0:World) (v:Vec Int) (hR:RdV w0 Fw.encI v) (hl:v.l.length≤17592186044416) :
    Ret Tryz.prog 110 #[.slice v.o v.l.length v.c] w0 (fun r w=>∃o' c',r= .slice o' v.l.length c'∧HS w0 noM [own 3 1 o' v.l.length c' (flat Fw.encI v.l)] w):=by
  have hH:HS w0 noM [] w0:=HS.init w0 noM
  have hfl:(flat Fw.encI v.l).length=v.l.length*1:=flat_length Fw.encI_len _
  have hon:(flat Fw.encI v.l).all (·.oneCell')=true:=flat_one_cell (fun _=>rfl) _
  (refine ENT (N:=8) Tryz.func110 Tryz.ntmps110 ?_;intro a hA)
  repeat' (first|(first|(refine GT ?_ ?_<;>intro hg<;>clear hA a<;>intro a hA<;>(first|exact FA|replace hg:=dTr hg|replace hg:=dFa hg|skip))|(refine XT ?_;apply XE;(first|(apply ex_eqlNil;rfl;rfl));clear hA a;intro a hA)|(refine QT ?_;clear hA a;intro a hA)|(first|(refine BT ?_;clear hA hH;rintro _ w ⟨bN,rfl,hH⟩ a hA)|(refine LT ?_;clear hA hH;rintro _ w ⟨oN,rfl,hH⟩ a hA)|(refine AT ?_;clear hA;rintro _ w ⟨oN,cN,rfl,hH2⟩ a hA;clear hH;have hH:=(hH2 _ (by (repeat constructor))).tail;clear hH2)|(refine S0T ?_;clear hH;rintro _ w hH)))|refine CT ?_|(refine DT ?_ ?_<;>intro hc<;>try (exfalso;omega))|(first|(refine DSK ?_;clear hA a;intro a hA)|(first|(refine DLT ?_;clear hA hH;rintro _ w ⟨oN,rfl,hH⟩;refine ⟨STT,?_⟩;intro a hA)|(refine DAT ?_;clear hA;rintro _ w ⟨oN,cN,rfl,hH2⟩;clear hH;have hH:=(hH2 _ (by (repeat constructor))).tail;clear hH2;refine ⟨STT,?_⟩;intro a hA))))
  · have hnil:=rd_nilN hR.1 (by first|assumption|(simp only [*])|exact Option.isNone_iff_eq_none.1 (by assumption))
    have hl0:v.l.length=0:=by rw [←Nat.mul_one v.l.length,←hfl,hnil];rfl
    obtain ⟨o,c,l⟩:=v
    obtain rfl:l=[]:=List.length_eq_zero_iff.1 hl0
    exact rt1 (.inl rfl) rfl hA rfl ⟨none,0,rfl,by show HS w0 noM [own _ 1 none 0 0 (flat Fw.encI [])] _;rw [flatI_nil];exact hH.nil_own 3 1⟩
  · have hRw:=hH.rd hR.1 id
    (apply st_op hA rfl rfl (by decide);apply op_append;rfl;rfl;exact hH;exact MEMT;exact hRw;exact hfl;rfl;decide;exact hon;(unfold maxLen;omega);omega;clear hA;rintro _ w ⟨oN,cN,rfl,hH2⟩ a hA;clear hH;have hH:=hH2 _ (by (repeat constructor));clear hH2)
    repeat' (first|(first|(refine GT ?_ ?_<;>intro hg<;>clear hA a<;>intro a hA<;>(first|exact FA|replace hg:=dTr hg|replace hg:=dFa hg|skip))|(refine QT ?_;clear hA a;intro a hA)|(first|(refine BT ?_;clear hA hH;rintro _ w ⟨bN,rfl,hH⟩ a hA)|(refine LT ?_;clear hA hH;rintro _ w ⟨oN,rfl,hH⟩ a hA)|(refine AT ?_;clear hA;rintro _ w ⟨oN,cN,rfl,hH2⟩ a hA;clear hH;have hH:=(hH2 _ (by (repeat constructor))).tail;clear hH2)|(refine S0T ?_;clear hH;rintro _ w hH)))|refine CT ?_|(refine DT ?_ ?_<;>intro hc<;>try (exfalso;omega))|(first|(refine DSK ?_;clear hA a;intro a hA)|(first|(refine DLT ?_;clear hA hH;rintro _ w ⟨oN,rfl,hH⟩;refine ⟨STT,?_⟩;intro a hA)|(refine DAT ?_;clear hA;rintro _ w ⟨oN,cN,rfl,hH2⟩;clear hH;have hH:=(hH2 _ (by (repeat constructor))).tail;clear hH2;refine ⟨STT,?_⟩;intro a hA))))
    rw [Nat.zero_add] at hA hH
    exact rt1 (.inl rfl) rfl hA rfl ⟨_,_,rfl,hH⟩
theorem cloneL_spec (w0:World) (v:Vec Int) (hR:RdV w0 Fw.encI v) (hl:v.l.length≤17592186044416) :
    Ret Tryz.prog 93 #[.slice v.o v.l.length v.c] w0 (fun r w=>∃o' c',r= .slice o' v.l.length c'∧HS w0 noM [own 2 1 o' v.l.length c' (flat Fw.encI v.l)] w):=by
  have hH:HS w0 noM [] w0:=HS.init w0 noM
  have hfl:(flat Fw.encI v.l).length=v.l.length*1:=flat_length Fw.encI_len _
  have hon:(flat Fw.encI v.l).all (·.oneCell')=true:=flat_one_cell (fun _=>rfl) _
  (refine ENT (N:=8) Tryz.func93 Tryz.ntmps93 ?_;intro a hA)
  repeat' (first|(first|(refine GT ?_ ?_<;>intro hg<;>clear hA a<;>intro a hA<;>(first|exact FA|replace hg:=dTr hg|replace hg:=dFa hg|skip))|(refine XT ?_;apply XE;(first|(apply ex_eqlNil;rfl;rfl));clear hA a;intro a hA)|(refine QT ?_;clear hA a;intro a hA)|(first|(refine BT ?_;clear hA hH;rintro _ w ⟨bN,rfl,hH⟩ a hA)|(refine LT ?_;clear hA hH;rintro _ w ⟨oN,rfl,hH⟩ a hA)|(refine AT ?_;clear hA;rintro _ w ⟨oN,cN,rfl,hH2⟩ a hA;clear hH;have hH:=(hH2 _ (by (repeat constructor))).tail;clear hH2)|(refine S0T ?_;clear hH;rintro _ w hH)))|refine CT ?_|(refine DT ?_ ?_<;>intro hc<;>try (exfalso;omega))|(first|(refine DSK ?_;clear hA a;intro a hA)|(first|(refine DLT ?_;clear hA hH;rintro _ w ⟨oN,rfl,hH⟩;refine ⟨STT,?_⟩;intro a hA)|(refine DAT ?_;clear hA;rintro _ w ⟨oN,cN,rfl,hH2⟩;clear hH;have hH:=(hH2 _ (by (repeat constructor))).tail;clear hH2;refine ⟨STT,?_⟩;intro a hA))))
  · have hnil:=rd_nilN hR.1 (by first|assumption|(simp only [*])|exact Option.isNone_iff_eq_none.1 (by assumption))
    have hl0:v.l.length=0:=by rw [←Nat.mul_one v.l.length,←hfl,hnil];rfl
    obtain ⟨o,c,l⟩:=v
    obtain rfl:l=[]:=List.length_eq_zero_iff.1 hl0
    exact rt1 (.inl rfl) rfl hA rfl ⟨none,0,rfl,by show HS w0 noM [own _ 1 none 0 0 (flat Fw.encI [])] _;rw [flatI_nil];exact hH.nil_own 2 1⟩
  · have hRw:=hH.rd hR.1 id
    (apply st_op hA rfl rfl (by decide);apply op_append;rfl;rfl;exact hH;exact MEMT;exact hRw;exact hfl;rfl;decide;exact hon;(unfold maxLen;omega);omega;clear hA;rintro _ w ⟨oN,cN,rfl,hH2⟩ a hA;clear hH;have hH:=hH2 _ (by (repeat constructor));clear hH2)
    repeat' (first|(first|(refine GT ?_ ?_<;>intro hg<;>clear hA a<;>intro a hA<;>(first|exact FA|replace hg:=dTr hg|replace hg:=dFa hg|skip))|(refine QT ?_;clear hA a;intro a hA)|(first|(refine BT ?_;clear hA hH;rintro _ w ⟨bN,rfl,hH⟩ a hA)|(refine LT ?_;clear hA hH;rintro _ w ⟨oN,rfl,hH⟩ a hA)|(refine AT ?_;clear hA;rintro _ w ⟨oN,cN,rfl,hH2⟩ a hA;clear hH;have hH:=(hH2 _ (by (repeat constructor))).tail;clear hH2)|(refine S0T ?_;clear hH;rintro _ w hH)))|refine CT ?_|(refine DT ?_ ?_<;>intro hc<;>try (exfalso;omega))|(first|(refine DSK ?_;clear hA a;intro a hA)|(first|(refine DLT ?_;clear hA hH;rintro _ w ⟨oN,rfl,hH⟩;refine ⟨STT,?_⟩;intro a hA)|(refine DAT ?_;clear hA;rintro _ w ⟨oN,cN,rfl,hH2⟩;clear hH;have hH:=(hH2 _ (by (repeat constructor))).tail;clear hH2;refine ⟨STT,?_⟩;intro a hA))))
    rw [Nat.zero_add] at hA hH
    exact rt1 (.inl rfl) rfl hA rfl ⟨_,_,rfl,hH⟩
theorem put_all {cells news:List Value} (h:cells.length=news.length):put cells 0 news=news:=by
  unfold put
  rw [List.take_zero,Nat.zero_add,←h,List.drop_length,List.nil_append,List.append_nil]
theorem atomsV_spec (w0:World) (v:Vec Atm) (hR:RdV w0 encAt v) (hl:v.l.length≤400000) :
    Ret Tryz.prog 109 #[.slice v.o v.l.length v.c] w0 (fun r w=>∃o' c',r= .slice o' v.l.length c'∧HS w0 noM [own 65 2 o' v.l.length c' (flat encAt v.l)] w):=by
  have hH:HS w0 noM [] w0:=HS.init w0 noM
  have hfl:(flat encAt v.l).length=v.l.length*2:=flat_length encAt_len _
  (refine ENT (N:=11) Tryz.func109 Tryz.ntmps109 ?_;intro a hA)
  repeat' (first|(first|(refine GT ?_ ?_<;>intro hg<;>clear hA a<;>intro a hA<;>(first|exact FA|replace hg:=dTr hg|replace hg:=dFa hg|skip))|(refine QT ?_;clear hA a;intro a hA)|(first|(refine BT ?_;clear hA hH;rintro _ w ⟨bN,rfl,hH⟩ a hA)|(refine LT ?_;clear hA hH;rintro _ w ⟨oN,rfl,hH⟩ a hA)|(refine AT ?_;clear hA;rintro _ w ⟨oN,cN,rfl,hH2⟩ a hA;clear hH;have hH:=(hH2 _ (by (repeat constructor))).tail;clear hH2)|(refine S0T ?_;clear hH;rintro _ w hH)))|refine CT ?_|(refine DT ?_ ?_<;>intro hc<;>try (exfalso;omega))|(first|(refine DSK ?_;clear hA a;intro a hA)|(first|(refine DLT ?_;clear hA hH;rintro _ w ⟨oN,rfl,hH⟩;refine ⟨STT,?_⟩;intro a hA)|(refine DAT ?_;clear hA;rintro _ w ⟨oN,cN,rfl,hH2⟩;clear hH;have hH:=(hH2 _ (by (repeat constructor))).tail;clear hH2;refine ⟨STT,?_⟩;intro a hA))))
  (apply st_op hA rfl rfl (by decide);apply op_make (encAt) ((⟨0,0⟩:Atm)) (n:=v.l.length);rfl;rfl;omega;omega;(unfold maxLen;omega);omega;exact encAt_len;rfl;decide;exact hH;clear hA hH;rintro _ w ⟨oN,rfl,hH⟩ a hA)
  repeat' (first|(first|(refine GT ?_ ?_<;>intro hg<;>clear hA a<;>intro a hA<;>(first|exact FA|replace hg:=dTr hg|replace hg:=dFa hg|skip))|(refine QT ?_;clear hA a;intro a hA)|(first|(refine BT ?_;clear hA hH;rintro _ w ⟨bN,rfl,hH⟩ a hA)|(refine LT ?_;clear hA hH;rintro _ w ⟨oN,rfl,hH⟩ a hA)|(refine AT ?_;clear hA;rintro _ w ⟨oN,cN,rfl,hH2⟩ a hA;clear hH;have hH:=(hH2 _ (by (repeat constructor))).tail;clear hH2)|(refine S0T ?_;clear hH;rintro _ w hH)))|refine CT ?_|(refine DT ?_ ?_<;>intro hc<;>try (exfalso;omega))|(first|(refine DSK ?_;clear hA a;intro a hA)|(first|(refine DLT ?_;clear hA hH;rintro _ w ⟨oN,rfl,hH⟩;refine ⟨STT,?_⟩;intro a hA)|(refine DAT ?_;clear hA;rintro _ w ⟨oN,cN,rfl,hH2⟩;clear hH;have hH:=(hH2 _ (by (repeat constructor))).tail;clear hH2;refine ⟨STT,?_⟩;intro a hA))))
  rcases Nat.eq_zero_or_pos v.l.length with h0|h0
  · (refine st_op hA rfl rfl (by decide) (op_copy0 rfl rfl hH (by rw [h0];rfl)) ?_;clear hA hH;rintro _ w ⟨rfl,hH⟩ a hA)
    repeat' (first|(first|(refine GT ?_ ?_<;>intro hg<;>clear hA a<;>intro a hA<;>(first|exact FA|replace hg:=dTr hg|replace hg:=dFa hg|skip))|(refine QT ?_;clear hA a;intro a hA)|(first|(refine BT ?_;clear hA hH;rintro _ w ⟨bN,rfl,hH⟩ a hA)|(refine LT ?_;clear hA hH;rintro _ w ⟨oN,rfl,hH⟩ a hA)|(refine AT ?_;clear hA;rintro _ w ⟨oN,cN,rfl,hH2⟩ a hA;clear hH;have hH:=(hH2 _ (by (repeat constructor))).tail;clear hH2)|(refine S0T ?_;clear hH;rintro _ w hH)))|refine CT ?_|(refine DT ?_ ?_<;>intro hc<;>try (exfalso;omega))|(first|(refine DSK ?_;clear hA a;intro a hA)|(first|(refine DLT ?_;clear hA hH;rintro _ w ⟨oN,rfl,hH⟩;refine ⟨STT,?_⟩;intro a hA)|(refine DAT ?_;clear hA;rintro _ w ⟨oN,cN,rfl,hH2⟩;clear hH;have hH:=(hH2 _ (by (repeat constructor))).tail;clear hH2;refine ⟨STT,?_⟩;intro a hA))))
    have hl0:v.l=[]:=List.length_eq_zero_iff.1 h0
    have e:flat encAt (List.replicate v.l.length (⟨0,0⟩:Atm))=flat encAt v.l:=by rw [hl0];rfl
    exact rt1 (.inl rfl) rfl hA rfl ⟨_,_,rfl,by rw [←e];exact hH⟩
  obtain ⟨o,c,l⟩:=v
  dsimp only at hR hl hfl h0 hH hA ⊢
  have hR1:Rd w0 o (flat encAt l):=hR.1
  obtain ⟨bO,kO,rfl⟩:=rd_someN hR1 (by omega)
  have hcl:(flat encAt (List.replicate l.length (⟨0,0⟩:Atm))).length=l.length*2:=by rw [flat_length encAt_len,List.length_replicate]
  have hon:(flat encAt l).all (·.oneCell')=true:=flat_one_cell (fun _=>rfl) _
  obtain ⟨b,spare,rfl,q1,q2,q3,q4,hH2⟩:=hH.own_block h0
  have hsp:spare=[]:=List.length_eq_zero_iff.1 (by rw [q3] at q4;omega)
  subst hsp
  clear hH
  have hH:=hH2
  clear hH2
  rw [List.append_nil] at hH
  have hRw:=rd_cellsN (hH.rd hR1 id)
  (apply st_op hA rfl rfl (by decide);apply op_copy_cb (cells:=flat encAt (List.replicate l.length (⟨0,0⟩:Atm))) (news:=flat encAt l) (k:=0);rfl;rfl;exact hH;exact hRw;(rw [hfl];congr 1;exact (Nat.min_self _).symm);exact hon;omega;(repeat constructor);clear hA hH;rintro _ w ⟨rfl,hH⟩ a hA)
  rw [put_all (by omega)] at hH
  repeat' (first|(first|(refine GT ?_ ?_<;>intro hg<;>clear hA a<;>intro a hA<;>(first|exact FA|replace hg:=dTr hg|replace hg:=dFa hg|skip))|(refine QT ?_;clear hA a;intro a hA)|(first|(refine BT ?_;clear hA hH;rintro _ w ⟨bN,rfl,hH⟩ a hA)|(refine LT ?_;clear hA hH;rintro _ w ⟨oN,rfl,hH⟩ a hA)|(refine AT ?_;clear hA;rintro _ w ⟨oN,cN,rfl,hH2⟩ a hA;clear hH;have hH:=(hH2 _ (by (repeat constructor))).tail;clear hH2)|(refine S0T ?_;clear hH;rintro _ w hH)))|refine CT ?_|(refine DT ?_ ?_<;>intro hc<;>try (exfalso;omega))|(first|(refine DSK ?_;clear hA a;intro a hA)|(first|(refine DLT ?_;clear hA hH;rintro _ w ⟨oN,rfl,hH⟩;refine ⟨STT,?_⟩;intro a hA)|(refine DAT ?_;clear hA;rintro _ w ⟨oN,cN,rfl,hH2⟩;clear hH;have hH:=(hH2 _ (by (repeat constructor))).tail;clear hH2;refine ⟨STT,?_⟩;intro a hA))))
  exact rt1 (.inl rfl) rfl hA rfl ⟨_,_,rfl,HS.block_own (sz:=2) (xs:=flat encAt l) (spare:=[]) (by rw [List.append_nil];exact hH) hfl (Nat.le_refl _) (by unfold maxLen;omega) (by simpa using hfl)⟩
end
def lv {α:Type} (l:List α):Vec α:=⟨none,0,l⟩
def stS (r:Stp):Stp:=⟨r.k,r.n,lv r.ns.l,lv r.a.l⟩
def stI (i:Ins):Ins:=⟨i.x,stS i.r⟩
def stE (e:Edg):Edg:=⟨e.b,lv e.a.l⟩
def stN (e:En):En:=⟨e.k,lv e.a.l,lv e.ns.l,lv (e.to.l.map stE)⟩
def stB (b:Blc):Blc:=⟨lv b.ps.l,lv (b.is.l.map stI),stN b.e⟩
abbrev FS:=List Blc × List (Int × Int)
def addI (x:Int) (r:Stp) (b:Blc):Blc:=⟨b.ps,lv (b.is.l++[⟨x,stS r⟩]),b.e⟩
def endB (e:En) (b:Blc):Blc:=⟨b.ps,b.is,e⟩
def e0:En:=⟨0,lv [],lv [],lv []⟩
def newB (ps:List Int):Blc:=⟨lv ps,lv [],e0⟩
mutual
def fillF:AN→Nat→FS→FS
  | .mk k x xs n ns r a ko kc kids,p,s=>
    if k=1 then fill1 kids p (s.1.modify p (addI x r),s.2)
    else if k=7 then fillJ kids s.1.length p (s.1++[newB xs.l],setI s.2 n s.1.length)
    else if k=8 then (s.1.modify p (endB ⟨4,lv [],lv [],lv [⟨(lkI s.2 n).getD 0,lv a.l⟩]⟩),s.2)
    else if k=5∨k=6 then ((fillK kids s []).1.1.modify p (endB ⟨k,lv a.l,lv ns.l,lv (fillK kids s []).2⟩),(fillK kids s []).1.2)
    else (s.1.modify p (endB ⟨k - 1,lv a.l,lv [],lv []⟩),s.2)
def fill1:List AN→Nat→FS→FS
  | [],_,s=>s
  |b::_,p,s=>fillF b p s
def fillJ:List AN→Nat→Nat→FS→FS
  | [],_,_,s=>s
  |b::l,j,p,s=>fill1 l p (fillF b j s)
def fillK:List AN→FS→List Edg→FS × List Edg
  | [],s,es=>(s,es)
  |b::l,s,es=>fillK l (fillF b s.1.length (s.1++[newB []],s.2)) (es++[⟨s.1.length,lv []⟩])
end
mutual
def szN:AN→Nat
  | .mk _ _ _ _ _ r a _ _ kids=>1+a.l.length+r.a.l.length+szNs kids
def szNs:List AN→Nat
  | []=>0
  |b::l=>szN b+szNs l
end
theorem szN_pos:∀b:AN,1≤szN b
  | .mk _ _ _ _ _ r a _ _ kids=>by rw [szN];omega
mutual
theorem an_ind {P:AN→Prop} (h:∀k x xs n ns r a ko kc kids,(∀b∈kids,P b)→P (.mk k x xs n ns r a ko kc kids)):∀b,P b
  | .mk k x xs n ns r a ko kc kids=>h k x xs n ns r a ko kc kids (an_inds h kids)
theorem an_inds {P:AN→Prop} (h:∀k x xs n ns r a ko kc kids,(∀b∈kids,P b)→P (.mk k x xs n ns r a ko kc kids)):∀l:List AN,∀b∈l,P b
  | [],b,hb=>absurd hb (List.not_mem_nil)
  |c::l,b,hb=>(List.mem_cons.1 hb).elim (fun e=>e▸an_ind h c) (an_inds h l b)
end
theorem lkI_set {m:List (Int × Int)} {k v k':Int}:lkI (setI m k v) k'=if k'=k then some v else lkI m k':=by
  have hmap:∀l:List (Int × Int),(l.map (fun e=>if e.1 == k then (k,v) else e)).find? (fun e=>e.1 == k')=(l.find? (fun e=>e.1 == k')).map (fun e=>if e.1 == k then (k,v) else e):=by
    intro l
    induction l with
    |nil=>rfl
    | cons e l ih=>
      rw [List.map_cons,List.find?_cons,List.find?_cons]
      have h1:((if e.1 == k then (k,v) else e).1 == k')=(e.1 == k'):=by
        by_cases he:e.1=k
        · simp [he]
        · simp [he]
      rw [h1]
      by_cases h2:(e.1 == k')=true
      · simp [h2]
      · simp only [Bool.not_eq_true] at h2
        simp only [h2]
        exact ih
  unfold setI
  by_cases h:(lkI m k).isSome
  · rw [if_pos h]
    unfold lkI at h ⊢
    rw [hmap]
    by_cases hk:k'=k
    · subst hk
      rw [if_pos rfl]
      cases hf:m.find? (fun e=>e.1 == k') with
      |none=>rw [hf] at h;cases h
      | some e=>
        have h3:=List.find?_some hf
        have h4:e.1=k':=by simpa using h3
        simp [h4]
    · rw [if_neg hk]
      cases hf:m.find? (fun e=>e.1 == k') with
      |none=>rfl
      | some e=>
        have h3:=List.find?_some hf
        have h4:e.1=k':=by simpa using h3
        have h5:¬(e.1=k):=fun h=>hk (h4▸h)
        simp [h5]
  · rw [if_neg h]
    unfold lkI at h ⊢
    rw [List.find?_append]
    by_cases hk:k'=k
    · subst hk
      rw [if_pos rfl]
      cases hf:m.find? (fun e=>e.1 == k') with
      |none=>simp
      |some e=>rw [hf] at h;exact absurd rfl h
    · rw [if_neg hk]
      cases hf:m.find? (fun e=>e.1 == k') with
      |none=>simp [Ne.symm hk]
      |some e=>rfl
theorem modify_at {α:Type} {l:List α} {p:Nat} {x:α} (h:l[p]?=some x) (f:α→α):l.modify p f=l.take p++f x::l.drop (p+1)∧l=l.take p++x::l.drop (p+1):=by
  obtain ⟨hi,rfl⟩:=List.getElem?_eq_some_iff.1 h
  refine ⟨List.modify_eq_take_cons_drop hi,?_⟩
  rw [←List.drop_eq_getElem_cons hi,List.take_append_drop]
theorem get_modify {α:Type} {l:List α} {p i:Nat} {f:α→α} (h:i≠p):(l.modify p f)[i]?=l[i]?:=by
  rw [List.getElem?_modify]
  simp [Ne.symm h]
theorem get_modify_eq {α:Type} {l:List α} {p:Nat} {f:α→α} {x:α} (h:l[p]?=some x):(l.modify p f)[p]?=some (f x):=by
  rw [List.getElem?_modify]
  simp [h]
def wB (bl:Blc):Nat:=2+(bl.is.l.map fun i=>1+i.r.a.l.length).sum+bl.e.a.l.length+(bl.e.to.l.map fun t=>1+t.a.l.length).sum
def wS (D:List Blc):Nat:=(D.map wB).sum
theorem wS_modify {D:List Blc} {p:Nat} {bl:Blc} (h:D[p]?=some bl) (f:Blc→Blc):wS (D.modify p f)+wB bl=wS D+wB (f bl):=by
  obtain ⟨h1,h2⟩:=modify_at h f
  unfold wS
  rw [h1]
  conv=>rhs;rw [h2]
  simp only [List.map_append,List.map_cons,List.sum_append,List.sum_cons]
  omega
theorem wS_snoc (D:List Blc) (b:Blc):wS (D++[b])=wS D+wB b:=by unfold wS;simp
theorem bvs_modify {D:List Blc} {p:Nat} {bl:Blc} (h:D[p]?=some bl) {f:Blc→Blc} (he:bvs (f bl)=bvs bl):(D.modify p f).flatMap bvs=D.flatMap bvs:=by
  obtain ⟨h1,h2⟩:=modify_at h f
  rw [h1]
  conv=>rhs;rw [h2]
  rw [List.flatMap_append,List.flatMap_append,List.flatMap_cons,List.flatMap_cons,he]
theorem bvs_add {D:List Blc} {p:Nat} {bl:Blc} (h:D[p]?=some bl) {x:Int} {r:Stp}:((D.modify p (addI x r)).flatMap bvs).Perm (D.flatMap bvs++[x]):=by
  obtain ⟨h1,h2⟩:=modify_at h (addI x r)
  rw [h1]
  conv=>rhs;rw [h2]
  have:bvs (addI x r bl)=bvs bl++[x]:=by unfold bvs addI lv;simp
  rw [List.flatMap_append,List.flatMap_append,List.flatMap_cons,List.flatMap_cons,this,List.append_assoc,List.append_assoc,List.append_assoc]
  exact .append_left _ (.append_left _ List.perm_append_comm)
structure Ann where
  rk:Nat
  γ:List Int
  ps:List Int
def Hd (D:List Blc) (A:List Ann):Prop:=D.map (·.ps.l)=A.map Ann.ps
theorem Hd.len {D:List Blc} {A:List Ann} (h:Hd D A):D.length=A.length:=by
  have:=congrArg List.length h
  simpa using this
theorem Hd.ps {D:List Blc} {A:List Ann} (h:Hd D A) {i:Nat} {bl:Blc} {an:Ann} (h1:D[i]?=some bl) (h2:A[i]?=some an):bl.ps.l=an.ps:=by
  have h3:(D.map (·.ps.l))[i]?=(A.map Ann.ps)[i]?:=by rw [h]
  rw [List.getElem?_map,List.getElem?_map,h1,h2] at h3
  exact Option.some.inj h3
theorem Hd.modify {D:List Blc} {A:List Ann} (h:Hd D A) {p:Nat} {f:Blc→Blc} (hf:∀b,(f b).ps=b.ps):Hd (D.modify p f) A:=by
  unfold Hd at *
  rw [←h]
  apply List.ext_getElem?
  intro i
  rw [List.getElem?_map,List.getElem?_map,List.getElem?_modify]
  cases D[i]? with
  |none=>rfl
  | some b=>
    show some _=some _
    split
    · show some (f b).ps.l=_
      rw [hf]
    · rfl
theorem Hd.snoc {D:List Blc} {A:List Ann} (h:Hd D A) (rk:Nat) (γ ps:List Int):Hd (D++[newB ps]) (A++[⟨rk,γ,ps⟩]):=by
  unfold Hd at *
  rw [List.map_append,List.map_append,h]
  rfl
def InsOk (g:Grs) (la:List Int) (mine:Int) (γ:List Int) (bl:Blc):Prop:=∀(i:Nat) (x:Ins),bl.is.l[i]?=some x→FormP g la mine x.r∧∀a∈x.r.a.l,atS g (nowS (·∈γ) bl i) a
structure BOk (g:Grs) (la:List Int) (mine:Int) (A:List Ann) (an:Ann) (bl:Blc):Prop where
  ins:InsOk g la mine an.γ bl
  end_:EndP bl.e
  ends:∀a∈bl.e.a.l,atS g (nowS (·∈an.γ) bl bl.is.l.length) a
  edges:∀t∈bl.e.to.l,∃(j:Nat) (am:Ann),t.b=(j:Int)∧A[j]?=some am∧an.rk<am.rk∧t.a.l.length=am.ps.length∧(∀a∈t.a.l,atS g (nowS (·∈an.γ) bl bl.is.l.length) a)∧∀y∈am.γ,2≤y→y∈an.γ∨y∈bvs bl
theorem BOk.more {g:Grs} {la:List Int} {mine:Int} {A:List Ann} {an:Ann} {bl:Blc} (h:BOk g la mine A an bl) (B:List Ann):BOk g la mine (A++B) an bl:=
  ⟨h.ins,h.end_,h.ends,fun t ht=>by
    obtain ⟨j,am,h1,h2,h3⟩:=h.edges t ht
    exact ⟨j,am,h1,by rw [List.getElem?_append_left (List.getElem?_eq_some_iff.1 h2).1];exact h2,h3⟩⟩
def OpOk (s:CS) (js:List (Int × Int)) (A:List Ann) (hi:Nat):Prop:=∀n∈s.op,∃(j:Nat) (am:Ann),lkI js n=some (j:Int)∧A[j]?=some am∧hi<am.rk∧lkI s.js n=some (am.ps.length:Int)∧∀y∈am.γ,2≤y→y∈s.now
structure FIn (g:Grs) (la:List Int) (mine:Int) (s:CS) (p lo:Nat) (D:List Blc) (A:List Ann) (B:Blc) (m:Ann):Prop where
  bl:D[p]?=some B
  an:A[p]?=some m
  ins:InsOk g la mine m.γ B
  e:B.e=e0
  cov:∀y∈s.now,2≤y→y∈m.γ∨y∈bvs B
  rk:m.rk≤lo
structure FOut (g:Grs) (la:List Int) (mine:Int) (s s':CS) (lo hi:Nat) (S S':FS) (A new:List Ann):Prop where
  hd:Hd S'.1 (A++new)
  rks:∀an∈new,lo<an.rk∧an.rk≤hi
  news:∀i,S.1.length≤i→i<S'.1.length→∃bl an,S'.1[i]?=some bl∧(A++new)[i]?=some an∧BOk g la mine (A++new) an bl
  now:∀y,y∈s'.now↔y∈s.now
  op:∀n,n∈s'.op↔n∈s.op
  js:∀n,(lkI s.js n).isSome→lkI S'.2 n=lkI S.2 n∧lkI s'.js n=lkI s.js n
  ever:(S.1.flatMap bvs).Perm s.ever→(S'.1.flatMap bvs).Perm s'.ever
  ok:CsOk s→CsOk s'
  ev:EvOk s.ever→EvOk s'.ever
def FillOk (g:Grs) (la:List Int) (mine:Int) (b:AN):Prop:=∀(d:Int) (s s':CS) (p lo:Nat) (S:FS) (A:List Ann) (bl:Blc) (an:Ann),bodyF g la mine b d s=some s'→szN b≤1000000→CsOk s→Hd S.1 A→OpOk s S.2 A (lo+szN b - 1)→FIn g la mine s p lo S.1 A bl an→
  ∃new,FOut g la mine s s' lo (lo+szN b - 1) S (fillF b p S) A new∧(∀i,i<S.1.length→i≠p→(fillF b p S).1[i]?=S.1[i]?)∧(∃bl',(fillF b p S).1[p]?=some bl'∧BOk g la mine (A++new) an bl')∧wS (fillF b p S).1+3≤wS S.1+5*szN b
theorem atS_of {g:Grs} {ks:List Int} {S:Int→Prop} {a:Atm} (h:atA g ks a) (hS:∀y∈ks,2≤y→S y):atS g S a:=by
  rcases h with ⟨h1,h2,h3,h4⟩| ⟨h1,h2,h3⟩|h
  · refine .inl ⟨h1,h2,h3,?_⟩
    by_cases h5:a.n<2
    · exact .inl h5
    · exact .inr (hS _ h4 (by omega))
  · exact .inr (.inl ⟨h1,h2,by omega⟩)
  · exact .inr (.inr h)
theorem form_st {g:Grs} {la:List Int} {mine:Int} {r:Stp} (h:FormP g la mine r):FormP g la mine (stS r):=⟨h.lo,h.hi,h.num,h.want,h.ns,h.lab⟩
theorem now_all {γ:List Int} {bl:Blc} {y:Int} (h:y∈γ∨y∈bvs bl):nowS (·∈γ) bl bl.is.l.length y:=by
  rcases h with h|h
  · exact .inl h
  · unfold bvs at h
    rcases List.mem_append.1 h with h|h
    · exact .inr (.inl h)
    · refine .inr (.inr ?_)
      rw [List.take_length];exact h
section
variable {g:Grs} {la:List Int} {mine:Int}
theorem mem_dels {l ks:List Int} {y:Int}:y∈l.foldl sdel ks↔y∈ks∧y ∉ l:=by
  induction l generalizing ks with
  |nil=>simp
  |cons x l ih=>rw [List.foldl_cons,ih,mem_sdel,List.mem_cons,not_or,and_assoc]
theorem bindL_eq:∀{l es ks:List Int} {q:List Int × List Int},bindL l es ks=some q→q=(es++l,ks++l)∧(∀y∈l,2≤y∧y ∉ es)∧(EvOk es→EvOk (es++l))
  | [],es,ks,q,h=>by
    rw [bindL] at h
    cases h
    rw [List.append_nil,List.append_nil]
    exact ⟨rfl,fun y hy=>absurd hy (List.not_mem_nil),id⟩
  | x ::l,es,ks,q,h=>by
    rw [bindL] at h
    split at h
    · next hb=>
      obtain ⟨h1,h2,h3⟩:=bindL_eq h
      rw [List.append_assoc,List.append_assoc] at h1
      refine ⟨h1,fun y hy=>?_,fun he=>?_⟩
      · rcases List.mem_cons.1 hy with rfl|hy
        · exact ⟨hb.1,hb.2.2⟩
        · exact ⟨(h2 y hy).1,fun h=>(h2 y hy).2 (List.mem_append_left _ h)⟩
      · have:=h3 (he.add hb)
        rwa [List.append_assoc] at this
    · cases h
theorem bindF_eq {l:List Int} {s s':CS} (h:bindF l s=some s'):s'={s with ever:=s.ever++l,now:=s.now++l}∧(∀y∈l,2≤y∧y ∉ s.ever)∧(EvOk s.ever→EvOk (s.ever++l)):=by
  unfold bindF at h
  obtain ⟨q,hq,rfl⟩:=Option.map_eq_some_iff.1 h
  obtain ⟨rfl,h2,h3⟩:=bindL_eq hq
  exact ⟨rfl,h2,h3⟩
theorem new_now {s:CS} (h:CsOk s) {l:List Int} (hl:∀y∈l,2≤y∧y ∉ s.ever) {y:Int} (hy:y∈l):y ∉ s.now:=fun hn=>by
  rcases h.now y hn with h1|h1
  · have:=(hl y hy).1;omega
  · exact (hl y hy).2 h1
theorem FOut.refl (s:CS) {lo hi:Nat} {S:FS} {A:List Ann} (h:Hd S.1 A):FOut g la mine s s lo hi S S A []:=
  ⟨by rw [List.append_nil];exact h,fun an h=>absurd h (List.not_mem_nil),fun i h1 h2=>(by omega),fun y=>Iff.rfl,fun y=>Iff.rfl,fun n h=>⟨rfl,rfl⟩,id,id,id⟩
theorem FOut.len {s s':CS} {lo hi:Nat} {S S':FS} {A new:List Ann} (h:FOut g la mine s s' lo hi S S' A new) (hd:Hd S.1 A):S.1.length≤S'.1.length:=by
  have h1:=h.hd.len
  have h2:=hd.len
  rw [List.length_append] at h1
  omega
theorem FOut.trans {s s1 s2:CS} {lo lo1 hi1 lo2 hi2 hi:Nat} {S S1 S2:FS} {A new1 new2:List Ann} (h1:FOut g la mine s s1 lo1 hi1 S S1 A new1) (h2:FOut g la mine s1 s2 lo2 hi2 S1 S2 (A++new1) new2) (hl1:lo≤lo1) (hl2:lo≤lo2) (hh1:hi1≤hi) (hh2:hi2≤hi)
    (hold:∀i,S.1.length≤i→i<S1.1.length→S2.1[i]?=S1.1[i]?):FOut g la mine s s2 lo hi S S2 A (new1++new2):=by
  refine ⟨by rw [←List.append_assoc];exact h2.hd,fun an h=>?_,fun i ha hb=>?_,fun y=>(h2.now y).trans (h1.now y),fun y=>(h2.op y).trans (h1.op y),fun n hn=>?_,fun h=>h2.ever (h1.ever h),fun h=>h2.ok (h1.ok h),fun h=>h2.ev (h1.ev h)⟩
  · rcases List.mem_append.1 h with h|h
    · have:=h1.rks an h;omega
    · have:=h2.rks an h;omega
  · rw [←List.append_assoc]
    by_cases hc:i<S1.1.length
    · obtain ⟨bl,an,e1,e2,e3⟩:=h1.news i ha hc
      exact ⟨bl,an,(hold i ha hc).trans e1,by rw [List.getElem?_append_left (List.getElem?_eq_some_iff.1 e2).1];exact e2,e3.more new2⟩
    · exact h2.news i (by omega) hb
  · have e1:=h1.js n hn
    have e2:=h2.js n (by rw [e1.2];exact hn)
    exact ⟨e2.1.trans e1.1,e2.2.trans e1.2⟩
theorem OpOk.step {s s1:CS} {lo hi1 hi hi':Nat} {S S1:FS} {A new:List Ann} (h:OpOk s S.2 A hi) (h1:FOut g la mine s s1 lo hi1 S S1 A new) (hh:hi'≤hi):OpOk s1 S1.2 (A++new) hi':=by
  intro n hn
  obtain ⟨j,am,e1,e2,e3,e4,e5⟩:=h n ((h1.op n).1 hn)
  have e6:=h1.js n (by rw [e4];rfl)
  exact ⟨j,am,e6.1.trans e1,by rw [List.getElem?_append_left (List.getElem?_eq_some_iff.1 e2).1];exact e2,by omega,e6.2.trans e4,fun y hy h2=>(h1.now y).2 (e5 y hy h2)⟩
theorem OpOk.snoc {s s1:CS} {js:List (Int × Int)} {hi hi':Nat} {A:List Ann} (h:OpOk s js A hi) (B:List Ann) (hh:hi'≤hi) (hop:s1.op=s.op) (hjs:s1.js=s.js) (hnow:∀y∈s.now,y∈s1.now):OpOk s1 js (A++B) hi':=by
  intro n hn
  rw [hop] at hn
  obtain ⟨j,am,e1,e2,e3,e4,e5⟩:=h n hn
  exact ⟨j,am,e1,by rw [List.getElem?_append_left (List.getElem?_eq_some_iff.1 e2).1];exact e2,by omega,by rw [hjs];exact e4,fun y hy h2=>hnow y (e5 y hy h2)⟩
theorem new_in {s:CS} {D:List Blc} {A:List Ann} (hd:Hd D A) (rk:Nat) (γ ps:List Int) (hcov:∀y∈s.now,2≤y→y∈γ∨y∈ps) {lo:Nat} (hr:rk≤lo):FIn g la mine s D.length lo (D++[newB ps]) (A++[⟨rk,γ,ps⟩]) (newB ps) ⟨rk,γ,ps⟩:=
  ⟨by simp,by rw [hd.len];simp,fun i x h=>(by unfold newB lv at h;simp at h),rfl,fun y hy h2=>(hcov y hy h2).imp id fun h=>(by unfold bvs newB lv;simpa using h),hr⟩
def KEd (s:CS) (lo:Nat) (A:List Ann) (t:Edg):Prop:=∃(j:Nat) (am:Ann),t=⟨(j:Int),lv []⟩∧A[j]?=some am∧lo<am.rk∧am.ps=[]∧∀y∈am.γ,y∈s.now
theorem KEd.more {s:CS} {lo:Nat} {A:List Ann} {t:Edg} (h:KEd s lo A t) (B:List Ann):KEd s lo (A++B) t:=by
  obtain ⟨j,am,h1,h2,h3⟩:=h
  exact ⟨j,am,h1,by rw [List.getElem?_append_left (List.getElem?_eq_some_iff.1 h2).1];exact h2,h3⟩
theorem kids_ok:∀l:List AN,(∀b∈l,FillOk g la mine b)→∀(d:Int) (s s':CS) (lo:Nat) (S:FS) (A:List Ann) (es:List Edg),kidsF g la mine l d s=some s'→szNs l≤1000000→CsOk s→Hd S.1 A→OpOk s S.2 A (lo+szNs l)→
    ∃new es',FOut g la mine s s' lo (lo+szNs l) S (fillK l S es).1 A new∧(∀i,i<S.1.length→(fillK l S es).1.1[i]?=S.1[i]?)∧(fillK l S es).2=es++es'∧es'.length=l.length∧(∀t∈es',KEd s lo (A++new) t)∧wS (fillK l S es).1.1+l.length≤wS S.1+5*szNs l
  | [],_,d,s,s',lo,S,A,es,h,hz,hc,hd,ho=>by
    rw [kidsF] at h
    cases h
    rw [fillK]
    exact ⟨[],[],FOut.refl s hd,fun i _=>rfl,(List.append_nil _).symm,rfl,fun t h=>absurd h (List.not_mem_nil),by rw [szNs];exact Nat.le_refl _⟩
  | b :: l,ih,d,s,s',lo,⟨D,js⟩,A,es,h,hz,hc,hd,ho=>by
    rw [kidsF] at h
    obtain ⟨s1,h1,h2⟩:=Option.bind_eq_some_iff.1 h
    rw [szNs] at ho hz
    have hpos:=szN_pos b
    have hb:=ih b (List.mem_cons_self ..)
    have hd1:=hd.snoc (lo+1) s.now []
    have hnew:bvs (newB [])=[]:=rfl
    obtain ⟨new1,F1,hold1,⟨bl',hat,hbo⟩,hw1⟩:=hb d s s1 D.length (lo+1) (D++[newB []],js) _ _ _ h1 (by omega) hc hd1 (ho.snoc _ (by omega) rfl rfl fun y h=>h) (new_in hd (lo+1) s.now [] (fun y hy _=>.inl hy) (Nat.le_refl _))
    dsimp only at F1 hold1 hat hw1 hd
    rw [List.length_append,List.length_singleton] at hold1
    have hlen1:=F1.len hd1
    rw [List.length_append,List.length_singleton] at hlen1
    obtain ⟨S2,hS2⟩:∃S2,S2=fillF b D.length (D++[newB []],js):=⟨_,rfl⟩
    rw [←hS2] at F1 hold1 hat hw1 hlen1
    rw [List.append_assoc] at hbo
    have F:FOut g la mine s s1 lo (lo+szN b) (D,js) S2 A ([⟨lo+1,s.now,[]⟩]++new1):=by
      refine ⟨by rw [←List.append_assoc];exact F1.hd,fun an h=>?_,fun i ha hb=>?_,F1.now,F1.op,F1.js,fun h=>F1.ever ?_,F1.ok,F1.ev⟩
      · rcases List.mem_append.1 h with h|h
        · obtain rfl:=List.mem_singleton.1 h;dsimp only;omega
        · have:=F1.rks an h;omega
      · dsimp only at ha
        by_cases hc:i=D.length
        · subst hc
          exact ⟨bl',⟨lo+1,s.now,[]⟩,hat,by rw [hd.len];simp,hbo⟩
        · rw [←List.append_assoc]
          exact F1.news i (by dsimp only;rw [List.length_append,List.length_singleton];omega) hb
      · dsimp only
        rw [List.flatMap_append,List.flatMap_singleton,hnew,List.append_nil]
        exact h
    obtain ⟨new2,es2,F2,hold2,hes,hel,hed,hw2⟩:=kids_ok l (fun b hb=>ih b (List.mem_cons_of_mem _ hb)) d s1 s' (lo+szN b) S2 (A++([⟨lo+1,s.now,[]⟩]++new1)) (es++[⟨D.length,lv []⟩]) h2 (by omega) (F.ok hc) F.hd (OpOk.step (S:=(D,js)) ho F (by omega))
    rw [fillK,szNs]
    dsimp only
    rw [←hS2]
    refine ⟨([⟨lo+1,s.now,[]⟩]++new1)++new2,⟨D.length,lv []⟩::es2,F.trans F2 (Nat.le_refl _) (by omega) (by omega) (by omega) (fun i _ hb=>hold2 i hb),fun i hi=>?_,?_,?_,fun t ht=>?_,?_⟩
    · rw [hold2 i (by omega),hold1 i (by omega) (by omega)]
      rw [List.getElem?_append_left hi]
    · rw [hes,List.append_assoc];rfl
    · rw [List.length_cons,List.length_cons,hel]
    · rcases List.mem_cons.1 ht with rfl|ht
      · refine ⟨D.length,⟨lo+1,s.now,[]⟩,rfl,by rw [hd.len];simp,by dsimp only;omega,rfl,fun y h=>h⟩
      · obtain ⟨j,am,e1,e2,e3,e4,e5⟩:=hed t ht
        exact ⟨j,am,e1,by rw [←List.append_assoc];exact e2,by omega,e4,fun y hy=>(F.now y).1 (e5 y hy)⟩
    · rw [wS_snoc] at hw1
      have:wB (newB [])=2:=rfl
      rw [List.length_cons]
      omega
end
section
variable {g:Grs} {la:List Int} {mine:Int}
theorem pre_of {k x n d:Int} {xs ns:Vec Int} {r:Stp} {a:Vec Atm} {ko:Option Addr} {kc:Nat} {kids:List AN} {s s1:CS} (h:preF g (.mk k x xs n ns r a ko kc kids) d s=some s1) :
    ((1≤k∧k≤8)∧ShpP k x xs.l n ns.l r a.l kids.length)∧(∀y∈a.l,atA g s.now y)∧s1={s with p:=s.p+1+a.l.length}:=by
  unfold preF at h
  split at h
  · next hc=>
    unfold atsF at h
    split at h
    · next ha=>
      cases h
      exact ⟨⟨hc.1,hc.2.2.2⟩,ha.1,rfl⟩
    · cases h
  · cases h
theorem end_w {D:List Blc} {p:Nat} {bl:Blc} (h:D[p]?=some bl) (he:bl.e=e0) (e:En):wS (D.modify p (endB e))=wS D+e.a.l.length+(e.to.l.map fun t=>1+t.a.l.length).sum:=by
  have h1:=wS_modify h (endB e)
  have h2:wB bl=2+(bl.is.l.map fun i=>1+i.r.a.l.length).sum:=by
    unfold wB
    rw [he]
    rfl
  have h3:wB (endB e bl)=2+(bl.is.l.map fun i=>1+i.r.a.l.length).sum+e.a.l.length+(e.to.l.map fun t=>1+t.a.l.length).sum:=rfl
  omega
theorem end_out {s s1 s':CS} {p lo hi sz:Nat} {S S2:FS} {A new:List Ann} {bl:Blc} {an:Ann} {e:En} (hin:FIn g la mine s p lo S.1 A bl an) (F:FOut g la mine s s1 lo hi S S2 A new) (hd:Hd S.1 A) (hold:∀i,i<S.1.length→S2.1[i]?=S.1[i]?)
    (hs:s'=s1∨∃q,s'={s1 with p:=q}) (hok:CsOk s→CsOk s') (hb:BOk g la mine (A++new) an (endB e bl)) (hw:wS S2.1+e.a.l.length+(e.to.l.map fun t=>1+t.a.l.length).sum+3≤wS S.1+5*sz) :
    ∃new,FOut g la mine s s' lo hi S (S2.1.modify p (endB e),S2.2) A new∧(∀i,i<S.1.length→i≠p→(S2.1.modify p (endB e))[i]?=S.1[i]?)∧(∃bl',(S2.1.modify p (endB e))[p]?=some bl'∧BOk g la mine (A++new) an bl')∧wS (S2.1.modify p (endB e))+3≤wS S.1+5*sz:=by
  have hpl:p<S.1.length:=(List.getElem?_eq_some_iff.1 hin.bl).1
  have hp2:S2.1[p]?=some bl:=(hold p hpl).trans hin.bl
  have e1:s'.now=s1.now∧s'.op=s1.op∧s'.js=s1.js∧s'.ever=s1.ever:=by
    rcases hs with rfl| ⟨q,rfl⟩
    · exact ⟨rfl,rfl,rfl,rfl⟩
    · exact ⟨rfl,rfl,rfl,rfl⟩
  refine ⟨new,⟨F.hd.modify fun _=>rfl,F.rks,fun i ha hb=>?_,fun y=>by rw [e1.1];exact F.now y,fun y=>by rw [e1.2.1];exact F.op y,fun n h=>by rw [e1.2.2.1];exact F.js n h,fun h=>?_,hok,fun h=>by rw [e1.2.2.2];exact F.ev h⟩,fun i hi hne=>(get_modify hne).trans (hold i hi),⟨_,get_modify_eq hp2,hb⟩,?_⟩
  · rw [List.length_modify] at hb
    obtain ⟨bl1,an1,h1,h2,h3⟩:=F.news i ha hb
    exact ⟨bl1,an1,(get_modify (by omega)).trans h1,h2,h3⟩
  · rw [e1.2.2.2]
    exact (List.Perm.of_eq (bvs_modify hp2 (f:=endB e) rfl)).trans (F.ever h)
  · rw [end_w hp2 hin.e];omega
theorem kids_sum {es:List Edg} (h:∀t∈es,t.a.l=[]):(es.map fun t=>1+t.a.l.length).sum=es.length:=by
  induction es with
  |nil=>rfl
  | cons t es ih=>
    rw [List.map_cons,List.sum_cons,List.length_cons,ih fun t ht=>h t (List.mem_cons_of_mem _ ht),h t (List.mem_cons_self ..)]
    show 1+0+_=_
    omega
theorem two_of {α:Type}:∀{l:List α},l.length=2→∃a b,l=[a,b]
  | [a,b],_=>⟨a,b,rfl⟩
theorem szNs_len:∀l:List AN,l.length≤szNs l
  | []=>Nat.zero_le _
  | b::l=>by
    rw [szNs,List.length_cons]
    have:=szN_pos b
    have:=szNs_len l
    omega
theorem i64_wrap_small {n:Nat} (h:n≤2000000):IntKind.i64.wrap ((n:Int)+1)=(n:Int)+1:=wrap_i64 ⟨by omega,by omega⟩
theorem fill_ok:∀b:AN,FillOk g la mine b:=an_ind fun k x xs n ns r a ko kc kids ih=>by
  intro d s s' p lo S A bl an he hz hcs hd hop hin
  obtain ⟨D,js⟩:=S
  have hok:CsOk s→CsOk s':=fun h=>bodyF_ok _ _ _ _ h he
  dsimp only at hd hop hin
  have hpl:p<D.length:=(List.getElem?_eq_some_iff.1 hin.bl).1
  rw [bodyF] at he
  obtain ⟨s1,h1,he⟩:=Option.bind_eq_some_iff.1 he
  have hcp:=preF_ok hcs h1
  obtain ⟨⟨hk,hsh⟩,hat,rfl⟩:=pre_of h1
  clear h1
  have hsz:szN (.mk k x xs n ns r a ko kc kids)=1+a.l.length+r.a.l.length+szNs kids:=by rw [szN]
  rw [hsz] at hop hz ⊢
  have hends:∀y∈a.l,atS g (nowS (·∈an.γ) bl bl.is.l.length) y:=fun y hy=>atS_of (hat y hy) fun z hz h2=>now_all (hin.cov z hz h2)
  rw [fillF]
  by_cases k1:k=1
  · subst k1
    rw [if_pos rfl] at he ⊢
    obtain ⟨s2,h2,he⟩:=Option.bind_eq_some_iff.1 he
    obtain ⟨s2',h2a,h2b⟩:=Option.bind_eq_some_iff.1 h2
    obtain ⟨s3,h3,rfl⟩:=Option.map_eq_some_iff.1 he
    obtain ⟨b0,rfl⟩:∃b0,kids=[b0]:=List.length_eq_one_iff.1 (hsh.kids.1 rfl)
    have hcs2:=bindF_ok (stepF_ok hcp h2a) h2b
    unfold stepF at h2a
    split at h2a
    rotate_left
    · cases h2a
    next hform=>
    unfold atsF at h2a
    split at h2a
    rotate_left
    · cases h2a
    next hra=>
    cases h2a
    obtain ⟨rfl,hx,hev⟩:=bindF_eq h2b
    clear h2 h2b
    rw [firstF] at h3
    rw [fill1]
    have hxn:x ∉ s.now:=new_now hcs hx (List.mem_singleton.2 rfl)
    have hbv:bvs (addI x r bl)=bvs bl++[x]:=by unfold bvs addI lv;simp
    have hin2:FIn g la mine {s with p:=s.p+1+a.l.length+r.a.l.length,ever:=s.ever++[x],now:=s.now++[x]} p lo (D.modify p (addI x r)) A (addI x r bl) an:=by
      refine ⟨get_modify_eq hin.bl,hin.an,fun i y hy=>?_,hin.e,fun y hy h2=>?_,hin.rk⟩
      · have hy':(bl.is.l++[⟨x,stS r⟩])[i]?=some y:=hy
        by_cases hi:i<bl.is.l.length
        · rw [List.getElem?_append_left hi] at hy'
          obtain ⟨q1,q2⟩:=hin.ins i y hy'
          refine ⟨q1,fun a ha=>?_⟩
          have:=q2 a ha
          unfold atS nowS at this ⊢
          have e:(addI x r bl).is.l.take i=bl.is.l.take i:=by
            show (bl.is.l++[_]).take i=_
            rw [List.take_append_of_le_length (by omega)]
          rw [e]
          exact this
        · have hi2:i=bl.is.l.length:=by
            have:=(List.getElem?_eq_some_iff.1 hy').1
            rw [List.length_append,List.length_singleton] at this
            omega
          subst hi2
          rw [List.getElem?_append_right (Nat.le_refl _),Nat.sub_self] at hy'
          obtain rfl:(⟨x,stS r⟩:Ins)=y:=Option.some.inj hy'
          refine ⟨form_st hform,fun a ha=>atS_of (hra.1 a ha) fun z hz h2=>?_⟩
          have:=now_all (hin.cov z hz h2)
          unfold nowS at this ⊢
          have e:(addI x r bl).is.l.take bl.is.l.length=bl.is.l.take bl.is.l.length:=by
            show (bl.is.l++[_]).take _=_
            rw [List.take_append_of_le_length (Nat.le_refl _)]
          rw [e]
          exact this
      · rw [hbv]
        rcases List.mem_append.1 hy with hy|hy
        · exact (hin.cov y hy h2).imp id (List.mem_append_left _)
        · exact .inr (List.mem_append_right _ hy)
    have hsz1:szNs [b0]=szN b0:=by rw [szNs,szNs,Nat.add_zero]
    have hal:a.l.length=0:=by rw [hsh.a.2.2 (.inl rfl)];rfl
    have hp0:=szN_pos b0
    rw [hsz1] at hop hz ⊢
    obtain ⟨new,F,hold,hatp,hw⟩:=ih b0 (List.mem_singleton.2 rfl) (d+1) _ s3 p lo (D.modify p (addI x r),js) A _ _ h3 (by omega) hcs2 (hd.modify fun _=>rfl) (by
        have:=hop.snoc (s1:={s with p:=s.p+1+a.l.length+r.a.l.length,ever:=s.ever++[x],now:=s.now++[x]}) [] (hi':=lo+szN b0 - 1) (by omega) rfl rfl fun y hy=>List.mem_append_left _ hy
        rw [List.append_nil] at this
        exact this) hin2
    dsimp only at F hold hatp hw
    rw [List.length_modify] at hold
    refine ⟨new,⟨F.hd,fun an h=>(by have:=F.rks an h;omega),fun i ha hb=>F.news i (by dsimp only;rw [List.length_modify];exact ha) hb,fun y=>?_,F.op,F.js,fun h=>F.ever ((bvs_add hin.bl).trans (h.append_right _)),hok,fun h=>F.ev (hev h)⟩,fun i hi hne=>(hold i hi hne).trans (get_modify hne),hatp,?_⟩
    · show y∈[x].foldl sdel s3.now↔_
      rw [mem_dels,F.now y]
      show y∈s.now++[x]∧_↔_
      rw [List.mem_append,List.mem_singleton]
      exact ⟨fun h=>h.1.resolve_right h.2,fun h=>⟨.inl h,fun e=>hxn (e▸h)⟩⟩
    · have h5:=wS_modify hin.bl (addI x r)
      have h6:wB (addI x r bl)=wB bl+1+r.a.l.length:=by
        unfold wB addI lv
        simp only [List.map_append,List.sum_append,List.map_cons,List.map_nil,List.sum_cons,List.sum_nil,stS]
        have:(lv r.a.l).l.length=r.a.l.length:=rfl
        omega
      dsimp only
      omega
  by_cases k7:k=7
  · subst k7
    rw [if_neg (by decide),if_pos rfl] at he ⊢
    obtain ⟨s2,h2,he⟩:=Option.bind_eq_some_iff.1 he
    unfold newJ at h2
    split at h2
    · cases h2
    next hnj=>
    have hnj':lkI s.js n=none:=Option.not_isSome_iff_eq_none.1 hnj
    have hcs2:=bindF_ok (s:={s with p:=s.p+1+a.l.length,js:=setI s.js n xs.l.length}) ⟨hcp.p0,hcp.p1,hcp.now⟩ h2
    obtain ⟨rfl,hx,hev⟩:=bindF_eq h2
    clear h2
    obtain ⟨b0,b1,rfl⟩:∃b0 b1,kids=[b0,b1]:=two_of (hsh.kids.2.1 (.inr rfl))
    rw [joinF] at he
    obtain ⟨s3,h3,he⟩:=Option.bind_eq_some_iff.1 he
    obtain ⟨s5,h5,rfl⟩:=Option.map_eq_some_iff.1 he
    rw [firstF] at h5
    rw [fillJ,fill1]
    have hsz1:szNs [b0,b1]=szN b0+szN b1:=by rw [szNs,szNs,szNs,Nat.add_zero]
    rw [hsz1] at hop hz ⊢
    have hp0:=szN_pos b0
    have hp1:=szN_pos b1
    have hnop:n ∉ s.op:=fun h=>by
      obtain ⟨j,am,e1,e2,e3,e4,e5⟩:=hop n h
      rw [hnj'] at e4
      cases e4
    have hbv:bvs (newB xs.l)=xs.l:=by unfold bvs newB lv;simp
    have hd1:=hd.snoc (lo+szN b1) s.now xs.l
    have hAj:(A++[(⟨lo+szN b1,s.now,xs.l⟩:Ann)])[D.length]?=some ⟨lo+szN b1,s.now,xs.l⟩:=by rw [hd.len];simp
    obtain ⟨new1,F1,hold1,⟨blj,hatj,hboj⟩,hw1⟩:=ih b0 (List.mem_cons_self ..) (d+1) _ s3 D.length (lo+szN b1) (D++[newB xs.l],setI js n D.length) _ _ _ h3 (by omega) hcs2 hd1 (by
      intro n' hn'
      have hne:n'≠n:=fun e=>hnop (e▸hn')
      obtain ⟨j,am,e1,e2,e3,e4,e5⟩:=hop n' hn'
      refine ⟨j,am,by show lkI (setI js n _) n'=_;rw [lkI_set,if_neg hne];exact e1,by rw [List.getElem?_append_left (List.getElem?_eq_some_iff.1 e2).1];exact e2,by omega,by show lkI (setI s.js n _) n'=_;rw [lkI_set,if_neg hne];exact e4,fun y hy h2=>List.mem_append_left _ (e5 y hy h2)⟩) (new_in hd (lo+szN b1) s.now xs.l (fun y hy _=>List.mem_append.1 hy) (Nat.le_refl _))
    dsimp only at F1 hold1 hatj hw1
    rw [List.length_append,List.length_singleton] at hold1
    have hlen1:=F1.len hd1
    rw [List.length_append,List.length_singleton] at hlen1
    obtain ⟨S2,hS2⟩:∃S2,S2=fillF b0 D.length (D++[newB xs.l],setI js n D.length):=⟨_,rfl⟩
    rw [←hS2] at F1 hold1 hatj hw1 hlen1 ⊢
    have hnow4:∀y,y∈(opF n (unbF xs.l s3)).now↔y∈s.now:=fun y=>by
      show y∈xs.l.foldl sdel s3.now↔_
      rw [mem_dels,F1.now y]
      show y∈s.now++xs.l∧_↔_
      rw [List.mem_append]
      exact ⟨fun h=>h.1.resolve_right h.2,fun h=>⟨.inl h,fun e=>new_now (s:={s with p:=s.p+1+a.l.length}) hcp hx e h⟩⟩
    have hop4:∀y,y∈(opF n (unbF xs.l s3)).op↔y∈s.op∨y=n:=fun y=>by
      show y∈sadd s3.op n↔_
      rw [mem_sadd,F1.op y]
    have hjs1:∀n',(lkI s.js n').isSome→n'≠n∧lkI S2.2 n'=lkI js n'∧lkI s3.js n'=lkI s.js n':=fun n' hn'=>by
      have hne:n'≠n:=fun e=>by rw [e,hnj'] at hn';cases hn'
      have e:lkI (setI s.js n (xs.l.length:Int)) n'=lkI s.js n':=by rw [lkI_set,if_neg hne]
      have h6:=F1.js n' (by show (lkI (setI s.js n _) n').isSome;rw [e];exact hn')
      refine ⟨hne,h6.1.trans ?_,h6.2.trans e⟩
      show lkI (setI js n _) n'=_
      rw [lkI_set,if_neg hne]
    have hjsn:lkI S2.2 n=some (D.length:Int)∧lkI s3.js n=some (xs.l.length:Int):=by
      have e:lkI (setI s.js n (xs.l.length:Int)) n=some (xs.l.length:Int):=by rw [lkI_set,if_pos rfl]
      have h6:=F1.js n (by show (lkI (setI s.js n _) n).isSome;rw [e];rfl)
      refine ⟨h6.1.trans ?_,h6.2.trans e⟩
      show lkI (setI js n _) n=_
      rw [lkI_set,if_pos rfl]
    have hA2:∀(i:Nat) (am:Ann),A[i]?=some am→(A++[⟨lo+szN b1,s.now,xs.l⟩]++new1)[i]?=some am:=fun i am h=>by
      have hi:=(List.getElem?_eq_some_iff.1 h).1
      rw [List.append_assoc,List.getElem?_append_left hi];exact h
    have hAj2:(A++[(⟨lo+szN b1,s.now,xs.l⟩:Ann)]++new1)[D.length]?=some ⟨lo+szN b1,s.now,xs.l⟩:=by
      rw [List.getElem?_append_left (by rw [List.length_append,hd.len,List.length_singleton];omega)];exact hAj
    obtain ⟨new2,F2,hold2,hat2,hw2⟩:=ih b1 (List.mem_cons_of_mem _ (List.mem_cons_self ..)) (d+1) _ s5 p lo S2 _ bl an h5 (by omega) (bodyF_ok _ _ _ _ hcs2 h3).unb.op F1.hd (by
      intro n' hn'
      rcases (hop4 n').1 hn' with hn'|rfl
      · obtain ⟨j,am,e1,e2,e3,e4,e5⟩:=hop n' hn'
        have h6:=hjs1 n' (by rw [e4];rfl)
        exact ⟨j,am,h6.2.1.trans e1,hA2 j am e2,by omega,h6.2.2.trans e4,fun y hy h2=>(hnow4 y).2 (e5 y hy h2)⟩
      · exact ⟨D.length,_,hjsn.1,hAj2,by dsimp only;omega,hjsn.2,fun y hy h2=>(hnow4 y).2 hy⟩) (by
      refine ⟨?_,hA2 p an hin.an,hin.ins,hin.e,fun y hy h2=>hin.cov y ((hnow4 y).1 hy) h2,hin.rk⟩
      rw [hold1 p (by omega) (by omega),List.getElem?_append_left hpl]
      exact hin.bl)
    have hlen2:=F2.len F1.hd
    obtain ⟨S3,hS3⟩:∃S3,S3=fillF b1 p S2:=⟨_,rfl⟩
    rw [←hS3] at F2 hold2 hat2 hw2 hlen2 ⊢
    have hass:A++([(⟨lo+szN b1,s.now,xs.l⟩:Ann)]++new1++new2)=A++[⟨lo+szN b1,s.now,xs.l⟩]++new1++new2:=by simp only [List.append_assoc]
    refine ⟨[⟨lo+szN b1,s.now,xs.l⟩]++new1++new2,?_,fun i hi hne=>?_,?_,?_⟩
    · refine ⟨by rw [hass];exact F2.hd,fun an h=>?_,fun i ha hb=>?_,fun y=>(F2.now y).trans (hnow4 y),fun y=>?_,fun n' hn'=>?_,fun h=>F2.ever (F1.ever ?_),hok,fun h=>F2.ev (F1.ev (hev h))⟩
      · rcases List.mem_append.1 h with h|h
        · rcases List.mem_append.1 h with h|h
          · obtain rfl:=List.mem_singleton.1 h
            dsimp only
            omega
          · have:=F1.rks an h;omega
        · have:=F2.rks an h;omega
      · rw [hass]
        dsimp only at ha
        by_cases hc:i<S2.1.length
        · rw [hold2 i hc (by omega)]
          by_cases hc2:i=D.length
          · subst hc2
            exact ⟨blj,_,hatj,by rw [List.getElem?_append_left (List.getElem?_eq_some_iff.1 hAj2).1];exact hAj2,hboj.more _⟩
          · obtain ⟨bl1,an1,q1,q2,q3⟩:=F1.news i (by dsimp only;rw [List.length_append,List.length_singleton];omega) hc
            exact ⟨bl1,an1,q1,by rw [List.getElem?_append_left (List.getElem?_eq_some_iff.1 q2).1];exact q2,q3.more _⟩
        · exact F2.news i (by omega) hb
      · show y∈sdel s5.op n↔_
        rw [mem_sdel,F2.op y,hop4 y]
        exact ⟨fun h=>h.1.resolve_right h.2,fun h=>⟨.inl h,fun e=>hnop (e▸h)⟩⟩
      · have h6:=hjs1 n' hn'
        have h7:=F2.js n' (by show (lkI s3.js n').isSome;rw [h6.2.2];exact hn')
        exact ⟨h7.1.trans h6.2.1,h7.2.trans h6.2.2⟩
      · dsimp only
        rw [List.flatMap_append,List.flatMap_singleton,hbv]
        exact h.append_right _
    · rw [hold2 i (by dsimp only at hi;omega) hne,hold1 i (by dsimp only at hi;omega) (by dsimp only at hi;omega),List.getElem?_append_left hi]
    · rw [hass];exact hat2
    · rw [wS_snoc] at hw1
      have:wB (newB xs.l)=2:=rfl
      dsimp only
      omega
  by_cases k8:k=8
  · subst k8
    rw [if_neg (by decide),if_neg (by decide),if_pos rfl] at he ⊢
    split at he
    rotate_left
    · cases he
    next hj=>
    cases he
    obtain ⟨hj1,hj2⟩:=hj
    obtain ⟨j,am,e1,e2,e3,e4,e5⟩:=hop n hj1
    have hj2':(a.l.length:Int)=(lkI s.js n).getD 0:=hj2
    rw [e4] at hj2'
    have hal:a.l.length=am.ps.length:=Int.ofNat.inj hj2'
    refine end_out (sz:=1+a.l.length+r.a.l.length+szNs kids) hin (FOut.refl s hd) hd (fun i _=>rfl) (.inr ⟨_,rfl⟩) hok ?_ ?_
    · rw [List.append_nil]
      refine ⟨hin.ins,⟨by show (1:Int)≤4;decide,by show (4:Int)≤6;decide,rfl,rfl,⟨fun h=>absurd h (by show ¬(4:Int)=6;decide),fun h=>absurd h (Nat.lt_irrefl 0)⟩,fun i h=>absurd h (Nat.not_lt_zero _)⟩,fun y hy=>absurd hy (List.not_mem_nil),fun t ht=>?_⟩
      obtain rfl:=List.mem_singleton.1 ht
      exact ⟨j,am,by show (lkI js n).getD 0=_;rw [e1];rfl,e2,by have:=hin.rk;omega,hal,hends,fun y hy h2=>hin.cov y (e5 y hy h2) h2⟩
    · show wS D+0+(1+a.l.length+0)+3≤wS D+_
      omega
  rw [if_neg k1,if_neg k7,if_neg k8] at he ⊢
  by_cases k56:k=5∨k=6
  · rw [if_pos k56]
    have hkids:kidsF g la mine kids (d+1) {s with p:=s.p+1+a.l.length}=some s'∧(k=6→upP ns.l∧ns.l≠[]∧kids.length=ns.l.length+1):=by
      by_cases k6:k=6
      · rw [if_pos k6] at he
        split at he
        · next hc=>exact ⟨he,fun _=>hc⟩
        · cases he
      · rw [if_neg k6] at he
        exact ⟨he,fun h=>absurd h k6⟩
    obtain ⟨he,hns⟩:=hkids
    obtain ⟨new,es,F,hold,hes,hel,hed,hw⟩:=kids_ok kids ih (d+1) _ s' lo (D,js) A [] he (by omega) hcp hd (by
      have:=hop.snoc (s1:={s with p:=s.p+1+a.l.length}) [] (hi':=lo+szNs kids) (by omega) rfl rfl fun y hy=>hy
      rw [List.append_nil] at this
      exact this)
    rw [List.nil_append] at hes
    rw [hes]
    have hsum:(es.map fun t=>1+t.a.l.length).sum=es.length:=kids_sum fun t ht=>by
      obtain ⟨j,am,rfl,_⟩:=hed t ht
      rfl
    have F':FOut g la mine s s' lo (lo+(1+a.l.length+r.a.l.length+szNs kids) - 1) (D,js) (fillK kids (D,js) []).1 A new:=⟨F.hd,fun an h=>(by have:=F.rks an h;omega),F.news,F.now,F.op,F.js,F.ever,hok,F.ev⟩
    refine end_out (sz:=1+a.l.length+r.a.l.length+szNs kids) hin F' hd hold (.inl rfl) hok ?_ ?_
    · refine ⟨hin.ins,⟨by show 1≤k;omega,by show k≤6;omega,?_,?_,⟨fun h=>?_,fun h=>?_⟩,?_⟩,hends,fun t ht=>?_⟩
      · show (a.l.length:Int)=endA k
        have:=hsh.a.1 (.inr (.inr (by omega)))
        unfold endA
        rw [this]
        rcases k56 with rfl|rfl<;>rfl
      · show (es.length:Int)=endT (IntKind.i64.wrap ((ns.l.length:Int)+1)) k
        rw [hel]
        unfold endT
        rcases k56 with rfl|rfl
        · rw [hsh.kids.2.1 (.inl rfl)];rfl
        · have h6:=(hns rfl).2.2
          have h7:kids.length≤szNs kids:=szNs_len kids
          rw [if_neg (by decide),if_neg (by decide),if_pos rfl,i64_wrap_small (by omega)]
          omega
      · have:=(hns h).2.1
        exact List.length_pos_iff.2 this
      · rcases hsh.ns with h1|h1
        · exact h1
        · exact absurd (show 0<ns.l.length from h) (by rw [h1];exact Nat.lt_irrefl 0)
      · show upP ns.l
        rcases hsh.ns with h1|h1
        · exact (hns h1).1
        · rw [h1]
          exact fun i h=>absurd h (Nat.not_lt_zero _)
      · obtain ⟨j,am,rfl,e1,e2,e3,e4⟩:=hed t ht
        exact ⟨j,am,rfl,e1,by have:=hin.rk;omega,by rw [e3];rfl,fun y hy=>absurd hy (List.not_mem_nil),fun y hy h2=>hin.cov y (e4 y hy) h2⟩
    · show wS _+a.l.length+(es.map fun t=>1+t.a.l.length).sum+3≤wS D+_
      rw [hsum,hel]
      dsimp only at hw
      omega
  · rw [if_neg k56]
    have hk24:k=2∨k=3∨k=4:=by omega
    rw [if_neg (by omega)] at he
    obtain rfl:kids=[]:=List.length_eq_zero_iff.1 (hsh.kids.2.2 (by omega))
    rw [kidsF] at he
    cases he
    refine end_out (sz:=1+a.l.length+r.a.l.length+szNs []) hin (FOut.refl s hd) hd (fun i _=>rfl) (.inr ⟨_,rfl⟩) hok ?_ ?_
    · rw [List.append_nil]
      refine ⟨hin.ins,⟨by show 1≤k - 1;omega,by show k - 1≤6;omega,?_,?_,⟨fun h=>absurd (show k - 1=6 from h) (by omega),fun h=>absurd h (Nat.lt_irrefl 0)⟩,fun i h=>absurd h (Nat.not_lt_zero _)⟩,hends,fun t ht=>absurd ht (List.not_mem_nil)⟩
      · show (a.l.length:Int)=endA (k - 1)
        have h1:=hsh.a.1
        have h2:=hsh.a.2.1
        unfold endA
        rcases hk24 with rfl|rfl|rfl
        · have:=h1 (.inl rfl);rw [this];rfl
        · have:=h2 rfl;rw [this];rfl
        · have:=h1 (.inr (.inl rfl));rw [this];rfl
      · show (0:Int)=endT _ (k - 1)
        unfold endT
        rcases hk24 with rfl|rfl|rfl<;>rfl
    · show wS D+a.l.length+0+3≤wS D+_
      omega
end
def edT (D:List Blc) (n:Int):List Int:=(D.getD n.toNat blc0).e.to.l.map (·.b)
def visF (D:List Blc):Nat→Int→List Int × List Int→List Int × List Int
  |0,_,q=>q
  | f+1,n,q=>if n∈q.1 then q else
    (((edT D n).foldl (fun q m=>visF D f m q) (sadd q.1 n,q.2)).1,((edT D n).foldl (fun q m=>visF D f m q) (sadd q.1 n,q.2)).2++[n])
def uns (N:Nat) (ks:List Int):Nat:=(List.range N).countP (fun i:Nat=>decide ((i:Int) ∉ ks))
theorem countP_lt {p q:Nat→Bool}:∀{l:List Nat} {a:Nat},(∀x∈l,p x=true→q x=true)→a∈l→q a=true→p a=false→l.countP p<l.countP q
  | [],a,_,h,_,_=>absurd h (List.not_mem_nil)
  | b ::l,a,hm,h,hq,hp=>by
    have h1:l.countP p≤l.countP q:=List.countP_mono_left fun x hx=>hm x (List.mem_cons_of_mem _ hx)
    rw [List.countP_cons,List.countP_cons]
    rcases List.mem_cons.1 h with rfl|h
    · rw [hq,hp];simp;omega
    · have h2:=countP_lt (fun x hx=>hm x (List.mem_cons_of_mem _ hx)) h hq hp
      have h3:=hm b (List.mem_cons_self ..)
      by_cases hb:p b=true
      · rw [hb,h3 hb];omega
      · simp only [Bool.not_eq_true] at hb
        rw [hb]
        simp only [Bool.false_eq_true,if_false]
        omega
theorem uns_mono {N:Nat} {ks ks':List Int} (h:∀x∈ks,x∈ks'):uns N ks'≤uns N ks:=List.countP_mono_left fun i _ hi=>by
  rw [decide_eq_true_iff] at hi ⊢
  exact fun hk=>hi (h _ hk)
theorem uns_add {N i:Nat} {ks:List Int} (hi:i<N) (h:(i:Int) ∉ ks):uns N (sadd ks i)<uns N ks:=by
  refine countP_lt (a:=i) (fun x _ hx=>?_) (List.mem_range.2 hi) (decide_eq_true h) (decide_eq_false fun h2=>h2 (mem_sadd.2 (.inr rfl)))
  rw [decide_eq_true_iff] at hx ⊢
  exact fun hk=>hx (mem_sadd.2 (.inl hk))
theorem uns_nil (N:Nat):uns N []=N:=by
  have:∀l:List Nat,l.countP (fun i:Nat=>decide ((i:Int) ∉ ([]:List Int)))=l.length:=fun l=>by rw [List.countP_eq_length];simp
  unfold uns
  rw [this,List.length_range]
section
variable {D:List Blc} {rk:Int→Nat}
def InR (D:List Blc) (n:Int):Prop:=0≤n∧n<D.length
def UpE (D:List Blc) (rk:Int→Nat):Prop:=∀n,InR D n→∀m∈edT D n,InR D m∧rk n<rk m
structure VInv (D:List Blc) (ks out:List Int):Prop where
  nd:out.Nodup
  sub:∀x∈out,x∈ks
  rg:∀x∈ks,InR D x
  cl:∀l1 n l2,out=l1++n::l2→∀m∈edT D n,m∈l1
structure VOut (D:List Blc) (from_:Int→Prop) (ks out:List Int) (q:List Int × List Int) (new:List Int):Prop where
  eq:q.2=out++new
  inv:VInv D q.1 q.2
  dis:∀x∈new,x ∉ ks
  ks:∀x,x∈q.1↔x∈ks∨x∈new
  come:∀x∈new,from_ x∨∃p∈new,x∈edT D p
theorem vis_fold {f:Nat} (hup:UpE D rk) (ih:∀n ks out,InR D n→uns D.length ks<f→VInv D ks out→(∀x∈ks,x ∉ out→rk x<rk n)→
    ∃new,VOut D (·=n) ks out (visF D f n (ks,out)) new∧n∈(visF D f n (ks,out)).2):∀(l ks out:List Int),(∀m∈l,InR D m∧∀x∈ks,x ∉ out→rk x<rk m)→uns D.length ks<f→VInv D ks out→
    ∃new,VOut D (·∈l) ks out (l.foldl (fun q m=>visF D f m q) (ks,out)) new∧∀m∈l,m∈(l.foldl (fun q m=>visF D f m q) (ks,out)).2
  | [],ks,out,_,_,hv=>⟨[],⟨(List.append_nil _).symm,hv,fun x h=>absurd h (List.not_mem_nil),fun x=>by simp,fun x h=>absurd h (List.not_mem_nil)⟩,fun x h=>absurd h (List.not_mem_nil)⟩
  | m ::l,ks,out,hl,hu,hv=>by
    obtain ⟨new1,h1,h2⟩:=ih m ks out (hl m (List.mem_cons_self ..)).1 hu hv (hl m (List.mem_cons_self ..)).2
    rw [List.foldl_cons]
    obtain ⟨⟨ks1,out1⟩,hq⟩:∃q,q=visF D f m (ks,out):=⟨_,rfl⟩
    rw [←hq] at h1 h2 ⊢
    have e1:=h1.eq
    have ek:=h1.ks
    dsimp only at e1 ek h2
    have hsub:∀x∈ks,x∈ks1:=fun x hx=>(ek x).2 (.inl hx)
    obtain ⟨new2,h3,h4⟩:=vis_fold hup ih l ks1 out1 (fun m' hm'=>⟨(hl m' (List.mem_cons_of_mem _ hm')).1,fun x hx hno=>by
      rcases (ek x).1 hx with h5|h5
      · exact (hl m' (List.mem_cons_of_mem _ hm')).2 x h5 fun h6=>hno (by rw [e1];exact List.mem_append_left _ h6)
      · exact absurd (by rw [e1];exact List.mem_append_right _ h5) hno⟩) (Nat.lt_of_le_of_lt (uns_mono hsub) hu) h1.inv
    refine ⟨new1++new2,⟨by rw [h3.eq,e1,List.append_assoc],h3.inv,fun x hx=>?_,fun x=>?_,fun x hx=>?_⟩,fun m' hm'=>?_⟩
    · rcases List.mem_append.1 hx with hx|hx
      · exact h1.dis x hx
      · exact fun hk=>h3.dis x hx (hsub x hk)
    · rw [h3.ks,ek,List.mem_append,or_assoc]
    · rcases List.mem_append.1 hx with hx|hx
      · rcases h1.come x hx with rfl| ⟨p,hp,h6⟩
        · exact .inl (List.mem_cons_self ..)
        · exact .inr ⟨p,List.mem_append_left _ hp,h6⟩
      · rcases h3.come x hx with h5| ⟨p,hp,h6⟩
        · exact .inl (List.mem_cons_of_mem _ h5)
        · exact .inr ⟨p,List.mem_append_right _ hp,h6⟩
    · rcases List.mem_cons.1 hm' with rfl|hm'
      · rw [h3.eq];exact List.mem_append_left _ h2
      · exact h4 m' hm'
theorem vis_ok (hup:UpE D rk):∀(f:Nat) (n:Int) (ks out:List Int),InR D n→uns D.length ks<f→VInv D ks out→(∀x∈ks,x ∉ out→rk x<rk n)→
    ∃new,VOut D (·=n) ks out (visF D f n (ks,out)) new∧n∈(visF D f n (ks,out)).2
  |0,n,ks,out,_,hu,_,_=>absurd hu (Nat.not_lt_zero _)
  | f + 1,n,ks,out,hn,hu,hv,hst=>by
    rw [visF]
    by_cases hk:n∈ks
    · rw [if_pos hk]
      refine ⟨[],⟨(List.append_nil _).symm,hv,fun x h=>absurd h (List.not_mem_nil),fun x=>by simp,fun x h=>absurd h (List.not_mem_nil)⟩,?_⟩
      by_cases ho:n∈out
      · exact ho
      · exact absurd (hst n hk ho) (Nat.lt_irrefl _)
    rw [if_neg hk]
    obtain ⟨i,rfl⟩:∃i:Nat,n=(i:Int):=⟨n.toNat,by have:=hn.1;omega⟩
    have hi:i<D.length:=by have:=hn.2;omega
    have hno:(i:Int) ∉ out:=fun h=>hk (hv.sub _ h)
    obtain ⟨new,h1,h2⟩:=vis_fold (f:=f) hup (vis_ok hup f) (edT D i) (sadd ks i) out (fun m hm=>⟨(hup _ hn m hm).1,fun x hx ho=>by
      have h3:=(hup _ hn m hm).2
      rcases mem_sadd.1 hx with h4|rfl
      · have:=hst x h4 ho;omega
      · exact h3⟩) (by have:=uns_add hi hk;omega) ⟨hv.nd,fun x hx=>mem_sadd.2 (.inl (hv.sub x hx)),fun x hx=>by
        rcases mem_sadd.1 hx with h|rfl
        · exact hv.rg x h
        · exact hn,hv.cl⟩
    obtain ⟨⟨ks1,out1⟩,hq⟩:∃q,q=(edT D i).foldl (fun q m=>visF D f m q) (sadd ks i,out):=⟨_,rfl⟩
    dsimp only at h1 h2 ⊢
    rw [←hq] at h1 h2 ⊢
    have e1:=h1.eq
    have ek:=h1.ks
    dsimp only at e1 ek h2 ⊢
    have hnn:(i:Int) ∉ new:=fun h=>h1.dis _ h (mem_sadd.2 (.inr rfl))
    have hno1:(i:Int) ∉ out1:=by rw [e1,List.mem_append];exact fun h=>h.elim hno hnn
    refine ⟨new++[(i:Int)],⟨by dsimp only;rw [e1,List.append_assoc],⟨?_,fun x hx=>?_,h1.inv.rg,fun l1 n l2 he m hm=>?_⟩,fun x hx=>?_,fun x=>?_,fun x hx=>?_⟩,List.mem_append_right _ (List.mem_singleton.2 rfl)⟩
    · exact List.nodup_append.2 ⟨h1.inv.nd,List.nodup_cons.2 ⟨List.not_mem_nil,List.nodup_nil⟩,fun a ha b hb=>by rw [List.mem_singleton] at hb;subst hb;exact fun e=>hno1 (e▸ha)⟩
    · rcases List.mem_append.1 hx with hx|hx
      · exact h1.inv.sub x hx
      · rw [List.mem_singleton] at hx;subst hx;exact (ek _).2 (.inl (mem_sadd.2 (.inr rfl)))
    · rcases List.append_eq_append_iff.1 he with ⟨a',h5,h6⟩| ⟨c',h5,h6⟩
      · -- l1=out1++a'
        have h7:a'=[]:=by
          cases a' with
          |nil=>rfl
          |cons y a'=>rw [List.cons_append] at h6;have:=(List.cons.inj h6).2;exact absurd this (by simp)
        subst h7
        rw [List.nil_append] at h6
        obtain ⟨rfl,_⟩:=List.cons.inj h6
        rw [List.append_nil] at h5
        rw [h5]
        exact h2 m hm
      · cases c' with
        | nil=>
          rw [List.nil_append] at h6
          rw [List.append_nil] at h5
          obtain ⟨rfl,_⟩:=List.cons.inj h6
          rw [←h5]
          exact h2 m hm
        | cons y c'=>
          rw [List.cons_append] at h6
          obtain ⟨rfl,_⟩:=List.cons.inj h6
          exact h1.inv.cl l1 n c' h5 m hm
    · rcases List.mem_append.1 hx with hx|hx
      · exact fun h=>h1.dis x hx (mem_sadd.2 (.inl h))
      · rw [List.mem_singleton] at hx;subst hx;exact hk
    · dsimp only
      rw [ek,mem_sadd,List.mem_append,List.mem_singleton,or_assoc]
      exact or_congr Iff.rfl (Or.comm)
    · rcases List.mem_append.1 hx with hx|hx
      · rcases h1.come x hx with h5| ⟨p,hp,h6⟩
        · exact .inr ⟨(i:Int),List.mem_append_right _ (List.mem_singleton.2 rfl),h5⟩
        · exact .inr ⟨p,List.mem_append_left _ hp,h6⟩
      · exact .inl (List.mem_singleton.1 hx)
structure OrdOk (D:List Blc) (ord:List Int):Prop where
  nd:ord.Nodup
  rg:∀x∈ord,InR D x
  zero:ord[0]?=some 0
  up:∀(i:Nat) (n m:Int),ord[i]?=some n→m∈edT D n→∃j,i<j∧ord[j]?=some m
  come:∀(k:Nat) (x:Int),0<k→ord[k]?=some x→∃i n,i<k∧ord[i]?=some n∧x∈edT D n
theorem nd_inj {l:List Int} (h:l.Nodup) {i j:Nat} {x:Int} (hi:l[i]?=some x) (hj:l[j]?=some x):i=j:=by
  obtain ⟨hi1,hi2⟩:=List.getElem?_eq_some_iff.1 hi
  obtain ⟨hj1,hj2⟩:=List.getElem?_eq_some_iff.1 hj
  have h1:=List.pairwise_iff_getElem.1 h
  rcases Nat.lt_trichotomy i j with h2|h2|h2
  · exact absurd (hi2.trans hj2.symm) (h1 i j hi1 hj1 h2)
  · exact h2
  · exact absurd (hj2.trans hi2.symm) (h1 j i hj1 hi1 h2)
theorem ord_ok (hup:UpE D rk) (h0:0<D.length) {f:Nat} (hf:D.length<f):OrdOk D (visF D f 0 ([],[])).2.reverse:=by
  obtain ⟨new,h1,h2⟩:=vis_ok hup f 0 [] [] ⟨Int.le_refl _,by omega⟩ (by rw [uns_nil];exact hf) ⟨List.nodup_nil,fun x h=>absurd h (List.not_mem_nil),fun x h=>absurd h (List.not_mem_nil),fun l1 n l2 h=>absurd h (by simp)⟩ (fun x h=>absurd h (List.not_mem_nil))
  have hlast:∃l,(visF D f 0 ([],[])).2=l++[0]:=by
    cases f with
    |zero=>exact absurd hf (Nat.not_lt_zero _)
    | succ f=>
      rw [visF,if_neg (List.not_mem_nil)]
      exact ⟨_,rfl⟩
  obtain ⟨⟨ks,out⟩,hq⟩:∃q,q=visF D f 0 ([],[]):=⟨_,rfl⟩
  rw [←hq] at h1 h2 hlast ⊢
  have e1:=h1.eq
  dsimp only at e1 h2 hlast ⊢
  rw [List.nil_append] at e1
  obtain ⟨l0,hl0⟩:=hlast
  have hup2:∀(i:Nat) (n m:Int),out.reverse[i]?=some n→m∈edT D n→∃j,i<j∧out.reverse[j]?=some m:=by
    intro i n m hi hm
    obtain ⟨hi1,hi2⟩:=List.getElem?_eq_some_iff.1 hi
    have hdec:out.reverse=out.reverse.take i++n::out.reverse.drop (i+1):=by
      rw [←hi2,←List.drop_eq_getElem_cons hi1,List.take_append_drop]
    have hdec2:out=(out.reverse.drop (i+1)).reverse++n::(out.reverse.take i).reverse:=by
      have:=congrArg List.reverse hdec
      rw [List.reverse_reverse] at this
      conv=>lhs;rw [this]
      simp
    have:=h1.inv.cl _ _ _ hdec2 m hm
    rw [List.mem_reverse] at this
    obtain ⟨j,hj⟩:=List.mem_iff_getElem?.1 this
    rw [List.getElem?_drop] at hj
    exact ⟨i+1+j,by omega,hj⟩
  have hnd:out.reverse.Nodup:=List.pairwise_reverse.2 (h1.inv.nd.imp fun h=>Ne.symm h)
  have hz:out.reverse[0]?=some 0:=by rw [hl0];simp
  refine ⟨hnd,fun x hx=>h1.inv.rg x (h1.inv.sub x (List.mem_reverse.1 hx)),hz,hup2,fun k x hk hx=>?_⟩
  have hxn:x∈new:=by rw [←e1];exact List.mem_reverse.1 (List.mem_of_getElem? hx)
  rcases h1.come x hxn with rfl| ⟨p,hp,h6⟩
  · have:=nd_inj hnd hx hz;omega
  · obtain ⟨i,hi⟩:=List.mem_iff_getElem?.1 (List.mem_reverse.2 (e1▸hp:p∈out))
    obtain ⟨j,hj,hj2⟩:=hup2 i p x hi h6
    have:=nd_inj hnd hj2 hx
    exact ⟨i,p,by omega,hi,h6⟩
end
end Go.Proofs.YtenlcdokaadobaaGreatDoor
