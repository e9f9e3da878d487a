/-
  anf.May's check of a body that returns, calls, raises or asks, given what it is of its parts. Conditions: none.
  anf.May at functions that return a number: exactly. Conditions: none.
-/
import Derived.Test.YtenlcdokaadobaaGreatDoorRowMakesMg4
import Derived.Test.YtenlcdokaadobaaGreatDoorRowMakesMg3
set_option maxHeartbeats 64000000
set_option maxRecDepth 10000
namespace Go.Proofs.YtenlcdokaadobaaGreatDoor
open Go Go.Fw
set_option linter.unusedVariables false
theorem pre_no {g:Grs} {la:List Int} {mine:Int} {k x n d:Int} {xs ns:Vec Int} {r:Stp} {va:Vec Atm} {ko:Option Addr} {kc:Nat} {kids:List AN} {s:CS}
    (h:¬((1≤k∧k≤8)∧s.p+1≤65536∧d≤32768∧ShpP k x xs.l n ns.l r va.l kids.length)):bodyF g la mine (.mk k x xs n ns r va ko kc kids) d s=none:=by
  rw [bodyF]
  have:preF g (.mk k x xs n ns r va ko kc kids) d s=none:=if_neg h
  rw [this];rfl
theorem pre_at {g:Grs} {la:List Int} {mine:Int} {k x n d:Int} {xs ns:Vec Int} {r:Stp} {va:Vec Atm} {ko:Option Addr} {kc:Nat} {kids:List AN} {s:CS}
    (ha:¬atsA g s.now (s.p+1) va.l):bodyF g la mine (.mk k x xs n ns r va ko kc kids) d s=none:=by
  rw [bodyF]
  have:preF g (.mk k x xs n ns r va ko kc kids) d s=none:=by
    unfold preF
    split
    · exact if_neg ha
    · rfl
  rw [this];rfl
theorem pre_yes {g:Grs} {la:List Int} {mine:Int} {k x n d:Int} {xs ns:Vec Int} {r:Stp} {va:Vec Atm} {ko:Option Addr} {kc:Nat} {kids:List AN} {s:CS}
    (h:(1≤k∧k≤8)∧s.p+1≤65536∧d≤32768∧ShpP k x xs.l n ns.l r va.l kids.length) (ha:atsA g s.now (s.p+1) va.l):preF g (.mk k x xs n ns r va ko kc kids) d s=some {s with p:=s.p+1+va.l.length}:=
  (if_pos h).trans (if_pos ha)
theorem len_nil {α:Type} {l:List α} (h:l=[]):l.length=0:=by rw [h];rfl
theorem st_split {P:Program} {ops:Array Oper} {Q:Exit→Act→World→Prop} (R:Act→World→Prop):∀(n:Nat) {ls:List Oper} {a:Act} {w:World},wpList P ops (Exit.then R Q) (ls.take n) a w→(∀a w,R a w→wpList P ops Q (ls.drop n) a w)→wpList P ops Q ls a w:=by
  intro n ls
  induction ls generalizing n with
  | nil=>
    intro a w h k
    rw [List.take_nil] at h
    rw [List.drop_nil] at k
    exact k a w h
  | cons o rest ih=>
    intro a w h k
    cases n with
    |zero=>exact k a w h
    |succ n=>
    rw [List.take_succ_cons] at h
    rw [List.drop_succ_cons] at k
    unfold wpList at h ⊢
    split
    · rename_i hw
      rw [if_pos hw] at h
      rcases h with h| ⟨h1,h2⟩
      · refine .inl (Oper.wp_mono (K:=wpList P ops (Exit.then R Q) (rest.take n)) (fun a w h=>ih n h k) ?_)
        unfold Oper.wp at *
        generalize (execOp a.eval o).run P w=r at *
        cases r with
        |ok n w'=>cases n<;>simp only [Oper.upon] at h ⊢<;>exact h
        |halt x w'=>cases x<;>simp only [Oper.upon] at h ⊢<;>exact h
      · exact .inr ⟨h1,by obtain ⟨a',w3,h3⟩:=h2;exact ⟨a',w3,h3⟩⟩
    · rename_i hw
      rw [if_neg hw] at h
      exact ih n h k
open Classical in
noncomputable def restF (g:Grs) (la:List Int) (mine:Int) (k x:Int) (xs:List Int) (n:Int) (ns:List Int) (r:Stp) (a:List Atm) (kids:List AN) (d:Int) (s:CS):Option CS:=
  if k=1 then ((stepF g la mine r s).bind (bindF [x])).bind fun s=>(firstF g la mine kids (d+1) s).map (unbF [x])
  else if k=7 then (newJ xs n s).bind fun s=>joinF g la mine kids xs n (d+1) s
  else if k=8 then (if n∈s.op∧(a.length:Int)=(lkI s.js n).getD 0 then some s else none)
  else if k=6 then (if upP ns∧ns≠[]∧kids.length=ns.length+1 then kidsF g la mine kids (d+1) s else none)
  else kidsF g la mine kids (d+1) s
theorem bodyF_pre {g:Grs} {la:List Int} {mine:Int} {k x n d:Int} {xs ns:Vec Int} {r:Stp} {va:Vec Atm} {ko:Option Addr} {kc:Nat} {kids:List AN} {s s1:CS} (h:preF g (.mk k x xs n ns r va ko kc kids) d s=some s1) :
    bodyF g la mine (.mk k x xs n ns r va ko kc kids) d s=restF g la mine k x xs.l n ns.l r va.l kids d s1:=by
  rw [bodyF,h,Option.bind_some]
  rfl
theorem sub_R {k x n:Int} {xs ns:Vec Int} {r:Stp} {va:Vec Atm} {ko:Option Addr} {kc:Nat} {kids:List AN} (i:Nat) (v:Value) (h:(encSt r)[i]?=some v):(encN (.mk k x xs n ns r va ko kc kids))[0+5+i]?=some v:=by
  rw [Nat.zero_add]
  match i,h with
  |0,h=>exact h
  |1,h=>exact h
  |2,h=>exact h
  |3,h=>exact h
  |n+4,h=>exact absurd h (by simp [encSt])
theorem three5 {w0 w:World} {M:Nat→Prop} {A B C D E x y z:It} {H:List It} (h:HS w0 M (A::B::C::D::E::x::y::z::H) w):HS w0 M [x,y,z] w:=HS.left (H1:=[x,y,z]) (H2:=H) (h.rm 0 |>.rm 0 |>.rm 0 |>.rm 0 |>.rm 0)
theorem three6 {w0 w:World} {M:Nat→Prop} {A B C D E F x y z:It} {H:List It} (h:HS w0 M (A::B::C::D::E::F::x::y::z::H) w):HS w0 M [x,y,z] w:=HS.left (H1:=[x,y,z]) (H2:=H) (h.rm 0 |>.rm 0 |>.rm 0 |>.rm 0 |>.rm 0 |>.rm 0)
theorem own1_rd {w0 w:World} {M:Nat→Prop} {L:List It} {o:Option Addr} {x:Int} (hw:HS w0 M L w) (hm:own 3 1 o 1 1 [.int .i64 x]∈L):Rd w o (flat Fw.encI [x]):=hw.own_rd hm
theorem st_reg {P:Program} {Q:Exit→Act→World→Prop} {c:Code} {a:Act} {w:World} (R:Act→World→Prop) (h:c.wp P (Exit.then R Q) a w) (k:∀a w,R a w→Q .normal a w):c.wp P Q a w:=
  Code.wp_mono (fun e a w q=>by cases e<;>first|exact k a w q|exact q) h
section
attribute [local irreducible] Code.wp wpList Calls Ex Op1 sat bat blk cb own Go.Fw.mp Go.Fw.mpO Go.Fw.mpI Go.Fw.mpE Go.Fw.itr HS Rd Ret wkD Hp Cl Cls Exit.then Exit.inBlock Exit.noGoto bodyPost Go.Fw.flat wk2 Go.Fw.all Go.Fw.owns wpOp
attribute [local irreducible] sk mpK sko mvO entK

def badP (h:Sh) (x n:Int) (xs ns:List Int) (r:Stp) (a kids:Nat):Prop:=
  ((((((h.x=false∧x≠0)∨(h.xs=false∧0<(xs.length:Int)))∨(h.n=false∧n≠0))∨(h.ns=false∧0<(ns.length:Int)))∨(h.r=false∧(r.k≠0∨r.n≠0∨0<(r.ns.l.length:Int)+r.a.l.length)))∨(0≤h.a∧(a:Int)≠h.a))∨(0≤h.k∧(kids:Int)≠h.k)
theorem shK_ok {k:Int} {sh:Sh} {ok:Bool} (h:(sh,ok)=shK k):ok=true↔1≤k∧k≤8:=by
  have:ok=(shK k).2:=by rw [←h]
  rw [this]
  unfold shK
  (repeat' split)<;>simp<;>omega
theorem nil_len {α:Type} {l:List α}:l=[]↔(l.length:Int)=0:=by
  rw [←List.length_eq_zero_iff];omega
theorem shp_iff {k x n:Int} {xs ns:List Int} {r:Stp} {a:List Atm} {kids:Nat}:ShpP k x xs n ns r a kids↔
    (k=1∨x=0)∧(k=7∨(xs.length:Int)=0)∧(k=7∨k=8∨n=0)∧(k=6∨(ns.length:Int)=0)∧(k=1∨(r.k=0∧r.n=0∧(r.ns.l.length:Int)=0∧(r.a.l.length:Int)=0))∧
    ((k=2∨k=4∨k=5∨k=6→a.length=1)∧(k=3→a.length=2)∧(k=1∨k=7→(a.length:Int)=0))∧((k=1→kids=1)∧(k=5∨k=7→kids=2)∧(k=2∨k=3∨k=4∨k=8→kids=0)):=by
  constructor
  · rintro ⟨h1,h2,h3,h4,h5,h6,h7⟩
    rw [nil_len] at h2 h4 h6
    rw [nil_len,nil_len] at h5
    exact ⟨h1,h2,h3,h4,h5,h6,h7⟩
  · rintro ⟨h1,h2,h3,h4,h5,h6,h7⟩
    rw [←nil_len] at h2 h4 h6
    rw [←nil_len,←nil_len] at h5
    exact ⟨h1,h2,h3,h4,h5,h6,h7⟩
theorem shK_bad {k x n:Int} {xs ns:List Int} {r:Stp} {a:List Atm} {kids:Nat} {sh:Sh} (h:(sh,true)=shK k):badP sh x n xs ns r a.length kids↔¬ShpP k x xs n ns r a kids:=by
  rw [shp_iff]
  have hk:1≤k∧k≤8:=(shK_ok h).1 rfl
  have:sh=(shK k).1:=by rw [←h]
  subst this
  have h8:k=1∨k=2∨k=3∨k=4∨k=5∨k=6∨k=7∨k=8:=by omega
  unfold badP
  have p1:0≤(xs.length:Int):=by omega
  have p2:0≤(ns.length:Int):=by omega
  have p3:0≤(r.ns.l.length:Int):=by omega
  have p4:0≤(r.a.l.length:Int):=by omega
  generalize (xs.length:Int)=q1 at *
  generalize (ns.length:Int)=q2 at *
  generalize (r.ns.l.length:Int)=q3 at *
  generalize (r.a.l.length:Int)=q4 at *
  generalize a.length=q5 at *
  rcases h8 with rfl|rfl|rfl|rfl|rfl|rfl|rfl|rfl<;>simp [shK]<;>omega
theorem hb_no {A:Prop} (h:false=true↔A):¬A:=fun ha=>by cases h.2 ha
theorem seg_or {b:Bool} {A C:Prop} (hA:¬A) (h:b=true↔C):b=true↔A∨C:=h.trans ⟨.inr,fun h=>h.elim (fun h=>absurd h hA) id⟩
theorem bodyN_spec (w0:World) (c:Kk) (la:List Int) (bK bE bW bJ bO:Nat) (he:c.e=some bE) (hc:c.n=some bW) (hj:c.j=some bJ) (ho:c.o=some bO) (k x n:Int) (xs ns:Vec Int) (r:Stp) (va:Vec Atm) (ko:Option Addr) (kc:Nat) (kids:List AN)
    (hR:RdN w0 (.mk k x xs n ns r va ko kc kids)) (hb:∀b∈kids,BodyC w0 c la bK bE bW bJ bO b) (hn:c.nA=la.length) (hla:la.length≤9223372036854775807):BodyC w0 c la bK bE bW bJ bO (.mk k x xs n ns r va ko kc kids):=by
  intro H w d s hm hs hd hd2 hH
  obtain ⟨oP,nP,cP,g,oA,nA,cA,caps,e,n0,j,o⟩:=c
  obtain rfl:n0=some bW:=hc
  obtain rfl:e=some bE:=he
  obtain rfl:j=some bJ:=hj
  obtain rfl:o=some bO:=ho
  cases hR with
  |mk h1 h2 h3 h4 h5 h6 h7=>
  have hp0:=hs.p0
  have hp1:=hs.p1
  obtain ⟨h1l,h2l,h3l,h4l,h5l,h6l⟩:xs.l.length≤17592186044416∧ns.l.length≤17592186044416∧r.ns.l.length≤17592186044416∧r.a.l.length≤17592186044416∧va.l.length≤17592186044416∧kids.length≤17592186044416:=⟨h1.2,h2.2,h3.2,h4.2,h5.2,h6.2⟩
  obtain ⟨⟨sh,ok⟩,hsh⟩:∃q,q=shK k:=⟨_,rfl⟩
  (refine ENT (N:=241) Tryz.func45 Tryz.ntmps45 ?_;intro a hA)
  repeat refine CT ?_
  (refine BT ?_;clear hA hH;rintro _ w ⟨b3,rfl,hH⟩ a hA)
  (refine BT ?_;clear hA hH;rintro _ w ⟨b4,rfl,hH⟩ a hA)
  (refine BT ?_;clear hA hH;rintro _ w ⟨b5,rfl,hH⟩ a hA)
  repeat' (first|(first|(refine GT ?_ ?_<;>intro hg<;>clear hA a<;>intro a hA<;>(first|exact FA|replace hg:=dTr hg|replace hg:=dFa hg|skip))|(refine QT ?_;clear hA a;intro a hA)|(first|(refine BT ?_;clear hA hH;rintro _ w ⟨bN,rfl,hH⟩ a hA)|(refine LT ?_;clear hA hH;rintro _ w ⟨oN,rfl,hH⟩ a hA)|(refine AT ?_;clear hA;rintro _ w ⟨oN,cN,rfl,hH2⟩ a hA;clear hH;have hH:=(hH2 _ (by (repeat constructor))).tail;clear hH2)|(refine S0T ?_;clear hH;rintro _ w hH)))|refine CT ?_|(refine DT ?_ ?_<;>intro hc<;>try (exfalso;omega))|(first|(refine DSK ?_;clear hA a;intro a hA)|(first|(refine DLT ?_;clear hA hH;rintro _ w ⟨oN,rfl,hH⟩;refine ⟨STT,?_⟩;intro a hA)|(refine DAT ?_;clear hA;rintro _ w ⟨oN,cN,rfl,hH2⟩;clear hH;have hH:=(hH2 _ (by (repeat constructor))).tail;clear hH2;refine ⟨STT,?_⟩;intro a hA))))
  have hS:=shapesN_spec w k
  rw [←hsh] at hS
  (refine st_op hA rfl rfl (by decide) (op_call rfl rfl rfl (hS)) ?_;clear hA;rintro _ w ⟨rfl,hk⟩ a hA;replace hH:=hH.keep hk;clear hk)
  refine st_cut (fun a w=>∃b7,HS w0 noM (cb b7 183 (encSh sh)::cb b5 3 [.int .i64 d]::cb b4 70 (encN (.mk k x xs n ns r va ko kc kids))::cb b3 124 [.pointer (some (bat bK 0))]::cb bK 127 (encKk ⟨oP,nP,cP,g,oA,nA,cA,caps,some bE,some bW,some bJ,some bO⟩ (s.p))::sk bE s.ever::sk bW s.now::mpI bJ s.js::sk bO s.op::H) w∧Sl 241 [(8,.bool ok),(7,.pointer (some (bat b7 0))),(6,.bool false),(5,.pointer (some (bat b5 0))),(4,.pointer (some (bat b4 0))),(3,.pointer (some (bat b3 0)))] a) ?_ ?_
  · repeat' (first|(first|(refine GT ?_ ?_<;>intro hg<;>clear hA a<;>intro a hA<;>(first|exact FA|replace hg:=dTr hg|replace hg:=dFa hg|skip))|(refine QT ?_;clear hA a;intro a hA)|(first|(refine BT ?_;clear hA hH;rintro _ w ⟨bN,rfl,hH⟩ a hA)|(refine LT ?_;clear hA hH;rintro _ w ⟨oN,rfl,hH⟩ a hA)|(refine AT ?_;clear hA;rintro _ w ⟨oN,cN,rfl,hH2⟩ a hA;clear hH;have hH:=(hH2 _ (by (repeat constructor))).tail;clear hH2)|(refine S0T ?_;clear hH;rintro _ w hH)|(refine SAT (encSh _) hA hH ?_;clear hH;intro w hH)))|refine CT ?_|(refine DT ?_ ?_<;>intro hc<;>try (exfalso;omega))|(first|(refine DSK ?_;clear hA a;intro a hA)|(first|(refine DLT ?_;clear hA hH;rintro _ w ⟨oN,rfl,hH⟩;refine ⟨STT,?_⟩;intro a hA)|(refine DAT ?_;clear hA;rintro _ w ⟨oN,cN,rfl,hH2⟩;clear hH;have hH:=(hH2 _ (by (repeat constructor))).tail;clear hH2;refine ⟨STT,?_⟩;intro a hA))))
    exact ⟨_,hH,(hA.sub SBT)⟩
  clear hA hH a w hS
  rintro a w ⟨b7,hH,hA⟩
  repeat refine CT ?_
  refine st_cut (fun a w=>HS w0 noM (cb b7 183 (encSh sh)::cb b5 3 [.int .i64 d]::cb b4 70 (encN (.mk k x xs n ns r va ko kc kids))::cb b3 124 [.pointer (some (bat bK 0))]::cb bK 127 (encKk ⟨oP,nP,cP,g,oA,nA,cA,caps,some bE,some bW,some bJ,some bO⟩ (s.p+1))::sk bE s.ever::sk bW s.now::mpI bJ s.js::sk bO s.op::H) w∧Sl 241 [(8,.bool ok),(7,.pointer (some (bat b7 0))),(6,.bool false),(5,.pointer (some (bat b5 0))),(4,.pointer (some (bat b4 0))),(3,.pointer (some (bat b3 0)))] a) ?_ ?_
  · repeat' (first|(first|(refine GT ?_ ?_<;>intro hg<;>clear hA a<;>intro a hA<;>(first|exact FA|replace hg:=dTr hg|replace hg:=dFa hg|skip))|(refine QT ?_;clear hA a;intro a hA)|(first|(refine BT ?_;clear hA hH;rintro _ w ⟨bN,rfl,hH⟩ a hA)|(refine LT ?_;clear hA hH;rintro _ w ⟨oN,rfl,hH⟩ a hA)|(refine AT ?_;clear hA;rintro _ w ⟨oN,cN,rfl,hH2⟩ a hA;clear hH;have hH:=(hH2 _ (by (repeat constructor))).tail;clear hH2)|(refine S0T ?_;clear hH;rintro _ w hH)|(apply st_op0 hA rfl rfl;apply op_store_fld (cs':=encKk ⟨oP,nP,cP,g,oA,nA,cA,caps,some bE,some bW,some bJ,some bO⟩ (s.p+1));rfl;rfl;rfl;exact hH;(repeat constructor);clear hH;rintro _ w hH)))|refine CT ?_|(refine DT ?_ ?_<;>intro hc<;>try (exfalso;omega))|(first|(refine DSK ?_;clear hA a;intro a hA)|(first|(refine DLT ?_;clear hA hH;rintro _ w ⟨oN,rfl,hH⟩;refine ⟨STT,?_⟩;intro a hA)|(refine DAT ?_;clear hA;rintro _ w ⟨oN,cN,rfl,hH2⟩;clear hH;have hH:=(hH2 _ (by (repeat constructor))).tail;clear hH2;refine ⟨STT,?_⟩;intro a hA))))
    exact ⟨hH,(hA.sub SBT)⟩
  clear hA hH a w
  rintro a w ⟨hH,hA⟩
  repeat refine CT ?_
  refine st_join (fun a w=>(ok=true∧s.p+1≤65536∧d≤32768)∧HS w0 noM (cb b7 183 (encSh sh)::cb b5 3 [.int .i64 d]::cb b4 70 (encN (.mk k x xs n ns r va ko kc kids))::cb b3 124 [.pointer (some (bat bK 0))]::cb bK 127 (encKk ⟨oP,nP,cP,g,oA,nA,cA,caps,some bE,some bW,some bJ,some bO⟩ (s.p+1))::sk bE s.ever::sk bW s.now::mpI bJ s.js::sk bO s.op::H) w∧Sl 241 [(7,.pointer (some (bat b7 0))),(6,.bool false),(5,.pointer (some (bat b5 0))),(4,.pointer (some (bat b4 0))),(3,.pointer (some (bat b3 0)))] a) ?_ ?_
  · have hok:=shK_ok hsh
    cases ok with
    | false=>
      repeat' (first|(first|(refine GT ?_ ?_<;>intro hg<;>clear hA a<;>intro a hA<;>(first|exact FA|replace hg:=dTr hg|replace hg:=dFa hg|skip))|(refine QT ?_;clear hA a;intro a hA)|(first|(refine BT ?_;clear hA hH;rintro _ w ⟨bN,rfl,hH⟩ a hA)|(refine LT ?_;clear hA hH;rintro _ w ⟨oN,rfl,hH⟩ a hA)|(refine AT ?_;clear hA;rintro _ w ⟨oN,cN,rfl,hH2⟩ a hA;clear hH;have hH:=(hH2 _ (by (repeat constructor))).tail;clear hH2)|(refine S0T ?_;clear hH;rintro _ w hH)))|refine CT ?_|(refine DT ?_ ?_<;>intro hc<;>try (exfalso;omega))|(first|(refine DSK ?_;clear hA a;intro a hA)|(first|(refine DLT ?_;clear hA hH;rintro _ w ⟨oN,rfl,hH⟩;refine ⟨STT,?_⟩;intro a hA)|(refine DAT ?_;clear hA;rintro _ w ⟨oN,cN,rfl,hH2⟩;clear hH;have hH:=(hH2 _ (by (repeat constructor))).tail;clear hH2;refine ⟨STT,?_⟩;intro a hA))))
      exact rt1 (.inl rfl) rfl hA rfl (.inr ⟨pre_no (fun h=>absurd (hok.2 h.1) (by decide)),rfl,{s with p:=s.p+1},hH.rm 0 |>.rm 0 |>.rm 0 |>.rm 0⟩)
    | true=>
      repeat' (first|(first|(refine GT ?_ ?_<;>intro hg<;>clear hA a<;>intro a hA<;>(first|exact FA|replace hg:=dTr hg|replace hg:=dFa hg|skip))|(refine QT ?_;clear hA a;intro a hA)|(first|(refine BT ?_;clear hA hH;rintro _ w ⟨bN,rfl,hH⟩ a hA)|(refine LT ?_;clear hA hH;rintro _ w ⟨oN,rfl,hH⟩ a hA)|(refine AT ?_;clear hA;rintro _ w ⟨oN,cN,rfl,hH2⟩ a hA;clear hH;have hH:=(hH2 _ (by (repeat constructor))).tail;clear hH2)|(refine S0T ?_;clear hH;rintro _ w hH)))|refine CT ?_|(refine DT ?_ ?_<;>intro hc<;>try (exfalso;omega))|(first|(refine DSK ?_;clear hA a;intro a hA)|(first|(refine DLT ?_;clear hA hH;rintro _ w ⟨oN,rfl,hH⟩;refine ⟨STT,?_⟩;intro a hA)|(refine DAT ?_;clear hA;rintro _ w ⟨oN,cN,rfl,hH2⟩;clear hH;have hH:=(hH2 _ (by (repeat constructor))).tail;clear hH2;refine ⟨STT,?_⟩;intro a hA))))
      all_goals first
        |exact ⟨⟨rfl,by omega,by omega⟩,hH,(hA.sub SBT)⟩
        |exact rt1 (.inl rfl) rfl hA rfl (.inr ⟨pre_no (fun h=>by have h1:=h.2.1;have h2:=h.2.2.1;omega),rfl,{s with p:=s.p+1},hH.rm 0 |>.rm 0 |>.rm 0 |>.rm 0⟩)
  clear hA hH a w
  rintro a w ⟨⟨hok,hpp,hdd⟩,hH,hA⟩
  subst hok
  have hbad:=shK_bad (x:=x) (n:=n) (xs:=xs.l) (ns:=ns.l) (r:=r) (a:=va.l) (kids:=kids.length) hsh
  repeat refine CT ?_
  obtain ⟨fx,fxs,fn,fns,fr,am,km⟩:=sh
  have hsh0:=hsh
  clear hsh
  (refine st_split (fun a w=>∃b:Bool,(b=true↔fx=false∧x≠0)∧HS w0 noM (cb b7 183 (encSh ⟨fx,fxs,fn,fns,fr,am,km⟩)::cb b5 3 [.int .i64 d]::cb b4 70 (encN (.mk k x xs n ns r va ko kc kids))::cb b3 124 [.pointer (some (bat bK 0))]::cb bK 127 (encKk ⟨oP,nP,cP,g,oA,nA,cA,caps,some bE,some bW,some bJ,some bO⟩ (s.p+1))::sk bE s.ever::sk bW s.now::mpI bJ s.js::sk bO s.op::H) w∧Sl 241 [(45,.bool b),(7,.pointer (some (bat b7 0))),(6,.bool false),(5,.pointer (some (bat b5 0))),(4,.pointer (some (bat b4 0))),(3,.pointer (some (bat b3 0)))] a) 8 ?_ ?_)
  · cases fx
    all_goals (repeat' (first|(first|(refine GT ?_ ?_<;>intro hg<;>clear hA a<;>intro a hA<;>(first|exact FA|replace hg:=dTr hg|replace hg:=dFa hg|skip))|(refine QT ?_;clear hA a;intro a hA)|(first|(refine BT ?_;clear hA hH;rintro _ w ⟨bN,rfl,hH⟩ a hA)|(refine LT ?_;clear hA hH;rintro _ w ⟨oN,rfl,hH⟩ a hA)|(refine AT ?_;clear hA;rintro _ w ⟨oN,cN,rfl,hH2⟩ a hA;clear hH;have hH:=(hH2 _ (by (repeat constructor))).tail;clear hH2)|(refine S0T ?_;clear hH;rintro _ w hH)))|refine CT ?_|(refine DT ?_ ?_<;>intro hc<;>try (exfalso;omega))|(first|(refine DSK ?_;clear hA a;intro a hA)|(first|(refine DLT ?_;clear hA hH;rintro _ w ⟨oN,rfl,hH⟩;refine ⟨STT,?_⟩;intro a hA)|(refine DAT ?_;clear hA;rintro _ w ⟨oN,cN,rfl,hH2⟩;clear hH;have hH:=(hH2 _ (by (repeat constructor))).tail;clear hH2;refine ⟨STT,?_⟩;intro a hA)))))
    all_goals (refine ⟨_,?_,hH,(hA.sub SBT)⟩;clear hA hH;first|exact absurd (by assumption:(!true)=true) (by decide)|exact absurd (by assumption:(!false)=false) (by decide)|exact ⟨fun h=>⟨rfl,dTr h⟩,fun h=>decide_eq_true h.2⟩|exact iff_of_false (fun h=>by cases h) (fun h=>by cases h.1))
  clear hA hH a w
  rintro a w ⟨b,hbq,hH,hA⟩
  (refine st_split (fun a w=>∃b:Bool,(b=true↔(fx=false∧x≠0)∨(fxs=false∧0<(xs.l.length:Int)))∧HS w0 noM (cb b7 183 (encSh ⟨fx,fxs,fn,fns,fr,am,km⟩)::cb b5 3 [.int .i64 d]::cb b4 70 (encN (.mk k x xs n ns r va ko kc kids))::cb b3 124 [.pointer (some (bat bK 0))]::cb bK 127 (encKk ⟨oP,nP,cP,g,oA,nA,cA,caps,some bE,some bW,some bJ,some bO⟩ (s.p+1))::sk bE s.ever::sk bW s.now::mpI bJ s.js::sk bO s.op::H) w∧Sl 241 [(56,.bool b),(7,.pointer (some (bat b7 0))),(6,.bool false),(5,.pointer (some (bat b5 0))),(4,.pointer (some (bat b4 0))),(3,.pointer (some (bat b3 0)))] a) 11 ?_ ?_)
  · cases b with
    | true=>
      repeat' (first|(first|(refine GT ?_ ?_<;>intro hg<;>clear hA a<;>intro a hA<;>(first|exact FA|replace hg:=dTr hg|replace hg:=dFa hg|skip))|(refine QT ?_;clear hA a;intro a hA)|(first|(refine BT ?_;clear hA hH;rintro _ w ⟨bN,rfl,hH⟩ a hA)|(refine LT ?_;clear hA hH;rintro _ w ⟨oN,rfl,hH⟩ a hA)|(refine AT ?_;clear hA;rintro _ w ⟨oN,cN,rfl,hH2⟩ a hA;clear hH;have hH:=(hH2 _ (by (repeat constructor))).tail;clear hH2)|(refine S0T ?_;clear hH;rintro _ w hH)))|refine CT ?_|(refine DT ?_ ?_<;>intro hc<;>try (exfalso;omega))|(first|(refine DSK ?_;clear hA a;intro a hA)|(first|(refine DLT ?_;clear hA hH;rintro _ w ⟨oN,rfl,hH⟩;refine ⟨STT,?_⟩;intro a hA)|(refine DAT ?_;clear hA;rintro _ w ⟨oN,cN,rfl,hH2⟩;clear hH;have hH:=(hH2 _ (by (repeat constructor))).tail;clear hH2;refine ⟨STT,?_⟩;intro a hA))))
      exact ⟨true,iff_of_true rfl (.inl (hbq.1 rfl)),hH,(hA.sub SBT)⟩
    | false=>
      have hB:=hb_no hbq
      cases fxs
      all_goals (repeat' (first|(first|(refine GT ?_ ?_<;>intro hg<;>clear hA a<;>intro a hA<;>(first|exact FA|replace hg:=dTr hg|replace hg:=dFa hg|skip))|(refine QT ?_;clear hA a;intro a hA)|(first|(refine BT ?_;clear hA hH;rintro _ w ⟨bN,rfl,hH⟩ a hA)|(refine LT ?_;clear hA hH;rintro _ w ⟨oN,rfl,hH⟩ a hA)|(refine AT ?_;clear hA;rintro _ w ⟨oN,cN,rfl,hH2⟩ a hA;clear hH;have hH:=(hH2 _ (by (repeat constructor))).tail;clear hH2)|(refine S0T ?_;clear hH;rintro _ w hH)))|refine CT ?_|(refine DT ?_ ?_<;>intro hc<;>try (exfalso;omega))|(first|(refine DSK ?_;clear hA a;intro a hA)|(first|(refine DLT ?_;clear hA hH;rintro _ w ⟨oN,rfl,hH⟩;refine ⟨STT,?_⟩;intro a hA)|(refine DAT ?_;clear hA;rintro _ w ⟨oN,cN,rfl,hH2⟩;clear hH;have hH:=(hH2 _ (by (repeat constructor))).tail;clear hH2;refine ⟨STT,?_⟩;intro a hA)))))
      all_goals (refine ⟨_,seg_or hB ?_,hH,(hA.sub SBT)⟩;clear hA hH hB;first|exact absurd (by assumption:(!true)=true) (by decide)|exact absurd (by assumption:(!false)=false) (by decide)|exact ⟨fun h=>⟨rfl,dTr h⟩,fun h=>decide_eq_true h.2⟩|exact ⟨fun h=>⟨by omega,dTr h⟩,fun h=>decide_eq_true h.2⟩|exact iff_of_false Bool.false_ne_true (fun h=>absurd h.1 (by decide))|exact iff_of_false Bool.false_ne_true (fun h=>by have:=h.1;omega)|exact iff_of_true rfl ⟨rfl,by omega⟩|exact ⟨fun h=>⟨rfl,by have:=dTr h;omega⟩,fun h=>decide_eq_true (by have:=h.2;omega)⟩|(exfalso;dsimp only at *;omega))
  clear hA hH a w b hbq
  rintro a w ⟨b,hbq,hH,hA⟩
  (refine st_split (fun a w=>∃b:Bool,(b=true↔((fx=false∧x≠0)∨(fxs=false∧0<(xs.l.length:Int)))∨(fn=false∧n≠0))∧HS w0 noM (cb b7 183 (encSh ⟨fx,fxs,fn,fns,fr,am,km⟩)::cb b5 3 [.int .i64 d]::cb b4 70 (encN (.mk k x xs n ns r va ko kc kids))::cb b3 124 [.pointer (some (bat bK 0))]::cb bK 127 (encKk ⟨oP,nP,cP,g,oA,nA,cA,caps,some bE,some bW,some bJ,some bO⟩ (s.p+1))::sk bE s.ever::sk bW s.now::mpI bJ s.js::sk bO s.op::H) w∧Sl 241 [(66,.bool b),(7,.pointer (some (bat b7 0))),(6,.bool false),(5,.pointer (some (bat b5 0))),(4,.pointer (some (bat b4 0))),(3,.pointer (some (bat b3 0)))] a) 10 ?_ ?_)
  · cases b with
    | true=>
      repeat' (first|(first|(refine GT ?_ ?_<;>intro hg<;>clear hA a<;>intro a hA<;>(first|exact FA|replace hg:=dTr hg|replace hg:=dFa hg|skip))|(refine QT ?_;clear hA a;intro a hA)|(first|(refine BT ?_;clear hA hH;rintro _ w ⟨bN,rfl,hH⟩ a hA)|(refine LT ?_;clear hA hH;rintro _ w ⟨oN,rfl,hH⟩ a hA)|(refine AT ?_;clear hA;rintro _ w ⟨oN,cN,rfl,hH2⟩ a hA;clear hH;have hH:=(hH2 _ (by (repeat constructor))).tail;clear hH2)|(refine S0T ?_;clear hH;rintro _ w hH)))|refine CT ?_|(refine DT ?_ ?_<;>intro hc<;>try (exfalso;omega))|(first|(refine DSK ?_;clear hA a;intro a hA)|(first|(refine DLT ?_;clear hA hH;rintro _ w ⟨oN,rfl,hH⟩;refine ⟨STT,?_⟩;intro a hA)|(refine DAT ?_;clear hA;rintro _ w ⟨oN,cN,rfl,hH2⟩;clear hH;have hH:=(hH2 _ (by (repeat constructor))).tail;clear hH2;refine ⟨STT,?_⟩;intro a hA))))
      exact ⟨true,iff_of_true rfl (.inl (hbq.1 rfl)),hH,(hA.sub SBT)⟩
    | false=>
      have hB:=hb_no hbq
      cases fn
      all_goals (repeat' (first|(first|(refine GT ?_ ?_<;>intro hg<;>clear hA a<;>intro a hA<;>(first|exact FA|replace hg:=dTr hg|replace hg:=dFa hg|skip))|(refine QT ?_;clear hA a;intro a hA)|(first|(refine BT ?_;clear hA hH;rintro _ w ⟨bN,rfl,hH⟩ a hA)|(refine LT ?_;clear hA hH;rintro _ w ⟨oN,rfl,hH⟩ a hA)|(refine AT ?_;clear hA;rintro _ w ⟨oN,cN,rfl,hH2⟩ a hA;clear hH;have hH:=(hH2 _ (by (repeat constructor))).tail;clear hH2)|(refine S0T ?_;clear hH;rintro _ w hH)))|refine CT ?_|(refine DT ?_ ?_<;>intro hc<;>try (exfalso;omega))|(first|(refine DSK ?_;clear hA a;intro a hA)|(first|(refine DLT ?_;clear hA hH;rintro _ w ⟨oN,rfl,hH⟩;refine ⟨STT,?_⟩;intro a hA)|(refine DAT ?_;clear hA;rintro _ w ⟨oN,cN,rfl,hH2⟩;clear hH;have hH:=(hH2 _ (by (repeat constructor))).tail;clear hH2;refine ⟨STT,?_⟩;intro a hA)))))
      all_goals (refine ⟨_,seg_or hB ?_,hH,(hA.sub SBT)⟩;clear hA hH hB;first|exact absurd (by assumption:(!true)=true) (by decide)|exact absurd (by assumption:(!false)=false) (by decide)|exact ⟨fun h=>⟨rfl,dTr h⟩,fun h=>decide_eq_true h.2⟩|exact ⟨fun h=>⟨by omega,dTr h⟩,fun h=>decide_eq_true h.2⟩|exact iff_of_false Bool.false_ne_true (fun h=>absurd h.1 (by decide))|exact iff_of_false Bool.false_ne_true (fun h=>by have:=h.1;omega)|exact iff_of_true rfl ⟨rfl,by omega⟩|exact ⟨fun h=>⟨rfl,by have:=dTr h;omega⟩,fun h=>decide_eq_true (by have:=h.2;omega)⟩|(exfalso;dsimp only at *;omega))
  clear hA hH a w b hbq
  rintro a w ⟨b,hbq,hH,hA⟩
  (refine st_split (fun a w=>∃b:Bool,(b=true↔(((fx=false∧x≠0)∨(fxs=false∧0<(xs.l.length:Int)))∨(fn=false∧n≠0))∨(fns=false∧0<(ns.l.length:Int)))∧HS w0 noM (cb b7 183 (encSh ⟨fx,fxs,fn,fns,fr,am,km⟩)::cb b5 3 [.int .i64 d]::cb b4 70 (encN (.mk k x xs n ns r va ko kc kids))::cb b3 124 [.pointer (some (bat bK 0))]::cb bK 127 (encKk ⟨oP,nP,cP,g,oA,nA,cA,caps,some bE,some bW,some bJ,some bO⟩ (s.p+1))::sk bE s.ever::sk bW s.now::mpI bJ s.js::sk bO s.op::H) w∧Sl 241 [(77,.bool b),(7,.pointer (some (bat b7 0))),(6,.bool false),(5,.pointer (some (bat b5 0))),(4,.pointer (some (bat b4 0))),(3,.pointer (some (bat b3 0)))] a) 11 ?_ ?_)
  · cases b with
    | true=>
      repeat' (first|(first|(refine GT ?_ ?_<;>intro hg<;>clear hA a<;>intro a hA<;>(first|exact FA|replace hg:=dTr hg|replace hg:=dFa hg|skip))|(refine QT ?_;clear hA a;intro a hA)|(first|(refine BT ?_;clear hA hH;rintro _ w ⟨bN,rfl,hH⟩ a hA)|(refine LT ?_;clear hA hH;rintro _ w ⟨oN,rfl,hH⟩ a hA)|(refine AT ?_;clear hA;rintro _ w ⟨oN,cN,rfl,hH2⟩ a hA;clear hH;have hH:=(hH2 _ (by (repeat constructor))).tail;clear hH2)|(refine S0T ?_;clear hH;rintro _ w hH)))|refine CT ?_|(refine DT ?_ ?_<;>intro hc<;>try (exfalso;omega))|(first|(refine DSK ?_;clear hA a;intro a hA)|(first|(refine DLT ?_;clear hA hH;rintro _ w ⟨oN,rfl,hH⟩;refine ⟨STT,?_⟩;intro a hA)|(refine DAT ?_;clear hA;rintro _ w ⟨oN,cN,rfl,hH2⟩;clear hH;have hH:=(hH2 _ (by (repeat constructor))).tail;clear hH2;refine ⟨STT,?_⟩;intro a hA))))
      exact ⟨true,iff_of_true rfl (.inl (hbq.1 rfl)),hH,(hA.sub SBT)⟩
    | false=>
      have hB:=hb_no hbq
      cases fns
      all_goals (repeat' (first|(first|(refine GT ?_ ?_<;>intro hg<;>clear hA a<;>intro a hA<;>(first|exact FA|replace hg:=dTr hg|replace hg:=dFa hg|skip))|(refine QT ?_;clear hA a;intro a hA)|(first|(refine BT ?_;clear hA hH;rintro _ w ⟨bN,rfl,hH⟩ a hA)|(refine LT ?_;clear hA hH;rintro _ w ⟨oN,rfl,hH⟩ a hA)|(refine AT ?_;clear hA;rintro _ w ⟨oN,cN,rfl,hH2⟩ a hA;clear hH;have hH:=(hH2 _ (by (repeat constructor))).tail;clear hH2)|(refine S0T ?_;clear hH;rintro _ w hH)))|refine CT ?_|(refine DT ?_ ?_<;>intro hc<;>try (exfalso;omega))|(first|(refine DSK ?_;clear hA a;intro a hA)|(first|(refine DLT ?_;clear hA hH;rintro _ w ⟨oN,rfl,hH⟩;refine ⟨STT,?_⟩;intro a hA)|(refine DAT ?_;clear hA;rintro _ w ⟨oN,cN,rfl,hH2⟩;clear hH;have hH:=(hH2 _ (by (repeat constructor))).tail;clear hH2;refine ⟨STT,?_⟩;intro a hA)))))
      all_goals (refine ⟨_,seg_or hB ?_,hH,(hA.sub SBT)⟩;clear hA hH hB;first|exact absurd (by assumption:(!true)=true) (by decide)|exact absurd (by assumption:(!false)=false) (by decide)|exact ⟨fun h=>⟨rfl,dTr h⟩,fun h=>decide_eq_true h.2⟩|exact ⟨fun h=>⟨by omega,dTr h⟩,fun h=>decide_eq_true h.2⟩|exact iff_of_false Bool.false_ne_true (fun h=>absurd h.1 (by decide))|exact iff_of_false Bool.false_ne_true (fun h=>by have:=h.1;omega)|exact iff_of_true rfl ⟨rfl,by omega⟩|exact ⟨fun h=>⟨rfl,by have:=dTr h;omega⟩,fun h=>decide_eq_true (by have:=h.2;omega)⟩|(exfalso;dsimp only at *;omega))
  clear hA hH a w b hbq
  rintro a w ⟨b,hbq,hH,hA⟩
  (refine st_split (fun a w=>∃b:Bool,(b=true↔((((fx=false∧x≠0)∨(fxs=false∧0<(xs.l.length:Int)))∨(fn=false∧n≠0))∨(fns=false∧0<(ns.l.length:Int)))∨(fr=false∧(r.k≠0∨r.n≠0∨0<(r.ns.l.length:Int)+r.a.l.length)))∧HS w0 noM (cb b7 183 (encSh ⟨fx,fxs,fn,fns,fr,am,km⟩)::cb b5 3 [.int .i64 d]::cb b4 70 (encN (.mk k x xs n ns r va ko kc kids))::cb b3 124 [.pointer (some (bat bK 0))]::cb bK 127 (encKk ⟨oP,nP,cP,g,oA,nA,cA,caps,some bE,some bW,some bJ,some bO⟩ (s.p+1))::sk bE s.ever::sk bW s.now::mpI bJ s.js::sk bO s.op::H) w∧Sl 241 [(106,.bool b),(7,.pointer (some (bat b7 0))),(6,.bool false),(5,.pointer (some (bat b5 0))),(4,.pointer (some (bat b4 0))),(3,.pointer (some (bat b3 0)))] a) 29 ?_ ?_)
  · cases b with
    | true=>
      repeat' (first|(first|(refine GT ?_ ?_<;>intro hg<;>clear hA a<;>intro a hA<;>(first|exact FA|replace hg:=dTr hg|replace hg:=dFa hg|skip))|(refine QT ?_;clear hA a;intro a hA)|(first|(refine BT ?_;clear hA hH;rintro _ w ⟨bN,rfl,hH⟩ a hA)|(refine LT ?_;clear hA hH;rintro _ w ⟨oN,rfl,hH⟩ a hA)|(refine AT ?_;clear hA;rintro _ w ⟨oN,cN,rfl,hH2⟩ a hA;clear hH;have hH:=(hH2 _ (by (repeat constructor))).tail;clear hH2)|(refine S0T ?_;clear hH;rintro _ w hH)))|refine CT ?_|(refine DT ?_ ?_<;>intro hc<;>try (exfalso;omega))|(first|(refine DSK ?_;clear hA a;intro a hA)|(first|(refine DLT ?_;clear hA hH;rintro _ w ⟨oN,rfl,hH⟩;refine ⟨STT,?_⟩;intro a hA)|(refine DAT ?_;clear hA;rintro _ w ⟨oN,cN,rfl,hH2⟩;clear hH;have hH:=(hH2 _ (by (repeat constructor))).tail;clear hH2;refine ⟨STT,?_⟩;intro a hA))))
      exact ⟨true,iff_of_true rfl (.inl (hbq.1 rfl)),hH,(hA.sub SBT)⟩
    | false=>
      have hB:=hb_no hbq
      cases fr
      all_goals (repeat' (first|(first|(refine GT ?_ ?_<;>intro hg<;>clear hA a<;>intro a hA<;>(first|exact FA|replace hg:=dTr hg|replace hg:=dFa hg|skip))|(refine QT ?_;clear hA a;intro a hA)|(first|(refine BT ?_;clear hA hH;rintro _ w ⟨bN,rfl,hH⟩ a hA)|(refine LT ?_;clear hA hH;rintro _ w ⟨oN,rfl,hH⟩ a hA)|(refine AT ?_;clear hA;rintro _ w ⟨oN,cN,rfl,hH2⟩ a hA;clear hH;have hH:=(hH2 _ (by (repeat constructor))).tail;clear hH2)|(refine S0T ?_;clear hH;rintro _ w hH)))|refine CT ?_|(refine DT ?_ ?_<;>intro hc<;>try (exfalso;omega))|(first|(refine DSK ?_;clear hA a;intro a hA)|(first|(refine DLT ?_;clear hA hH;rintro _ w ⟨oN,rfl,hH⟩;refine ⟨STT,?_⟩;intro a hA)|(refine DAT ?_;clear hA;rintro _ w ⟨oN,cN,rfl,hH2⟩;clear hH;have hH:=(hH2 _ (by (repeat constructor))).tail;clear hH2;refine ⟨STT,?_⟩;intro a hA)))))
      all_goals (refine ⟨_,seg_or hB ?_,hH,(hA.sub SBT)⟩;clear hA hH hB;first|exact absurd (by assumption:(!true)=true) (by decide)|exact absurd (by assumption:(!false)=false) (by decide)|exact ⟨fun h=>⟨rfl,dTr h⟩,fun h=>decide_eq_true h.2⟩|exact ⟨fun h=>⟨by omega,dTr h⟩,fun h=>decide_eq_true h.2⟩|exact iff_of_false Bool.false_ne_true (fun h=>absurd h.1 (by decide))|exact iff_of_false Bool.false_ne_true (fun h=>by have:=h.1;omega)|exact iff_of_true rfl ⟨rfl,by omega⟩|exact ⟨fun h=>⟨rfl,by have:=dTr h;omega⟩,fun h=>decide_eq_true (by have:=h.2;omega)⟩|(exfalso;dsimp only at *;omega))
  clear hA hH a w b hbq
  rintro a w ⟨b,hbq,hH,hA⟩
  (refine st_split (fun a w=>∃b:Bool,(b=true↔(((((fx=false∧x≠0)∨(fxs=false∧0<(xs.l.length:Int)))∨(fn=false∧n≠0))∨(fns=false∧0<(ns.l.length:Int)))∨(fr=false∧(r.k≠0∨r.n≠0∨0<(r.ns.l.length:Int)+r.a.l.length)))∨(0≤am∧(va.l.length:Int)≠am))∧HS w0 noM (cb b7 183 (encSh ⟨fx,fxs,fn,fns,fr,am,km⟩)::cb b5 3 [.int .i64 d]::cb b4 70 (encN (.mk k x xs n ns r va ko kc kids))::cb b3 124 [.pointer (some (bat bK 0))]::cb bK 127 (encKk ⟨oP,nP,cP,g,oA,nA,cA,caps,some bE,some bW,some bJ,some bO⟩ (s.p+1))::sk bE s.ever::sk bW s.now::mpI bJ s.js::sk bO s.op::H) w∧Sl 241 [(119,.bool b),(7,.pointer (some (bat b7 0))),(6,.bool false),(5,.pointer (some (bat b5 0))),(4,.pointer (some (bat b4 0))),(3,.pointer (some (bat b3 0)))] a) 13 ?_ ?_)
  · cases b with
    | true=>
      repeat' (first|(first|(refine GT ?_ ?_<;>intro hg<;>clear hA a<;>intro a hA<;>(first|exact FA|replace hg:=dTr hg|replace hg:=dFa hg|skip))|(refine QT ?_;clear hA a;intro a hA)|(first|(refine BT ?_;clear hA hH;rintro _ w ⟨bN,rfl,hH⟩ a hA)|(refine LT ?_;clear hA hH;rintro _ w ⟨oN,rfl,hH⟩ a hA)|(refine AT ?_;clear hA;rintro _ w ⟨oN,cN,rfl,hH2⟩ a hA;clear hH;have hH:=(hH2 _ (by (repeat constructor))).tail;clear hH2)|(refine S0T ?_;clear hH;rintro _ w hH)))|refine CT ?_|(refine DT ?_ ?_<;>intro hc<;>try (exfalso;omega))|(first|(refine DSK ?_;clear hA a;intro a hA)|(first|(refine DLT ?_;clear hA hH;rintro _ w ⟨oN,rfl,hH⟩;refine ⟨STT,?_⟩;intro a hA)|(refine DAT ?_;clear hA;rintro _ w ⟨oN,cN,rfl,hH2⟩;clear hH;have hH:=(hH2 _ (by (repeat constructor))).tail;clear hH2;refine ⟨STT,?_⟩;intro a hA))))
      exact ⟨true,iff_of_true rfl (.inl (hbq.1 rfl)),hH,(hA.sub SBT)⟩
    | false=>
      have hB:=hb_no hbq
      by_cases hm0:0≤am
      all_goals (repeat' (first|(first|(refine GT ?_ ?_<;>intro hg<;>clear hA a<;>intro a hA<;>(first|exact FA|replace hg:=dTr hg|replace hg:=dFa hg|skip))|(refine QT ?_;clear hA a;intro a hA)|(first|(refine BT ?_;clear hA hH;rintro _ w ⟨bN,rfl,hH⟩ a hA)|(refine LT ?_;clear hA hH;rintro _ w ⟨oN,rfl,hH⟩ a hA)|(refine AT ?_;clear hA;rintro _ w ⟨oN,cN,rfl,hH2⟩ a hA;clear hH;have hH:=(hH2 _ (by (repeat constructor))).tail;clear hH2)|(refine S0T ?_;clear hH;rintro _ w hH)))|refine CT ?_|(refine DT ?_ ?_<;>intro hc<;>try (exfalso;omega))|(first|(refine DSK ?_;clear hA a;intro a hA)|(first|(refine DLT ?_;clear hA hH;rintro _ w ⟨oN,rfl,hH⟩;refine ⟨STT,?_⟩;intro a hA)|(refine DAT ?_;clear hA;rintro _ w ⟨oN,cN,rfl,hH2⟩;clear hH;have hH:=(hH2 _ (by (repeat constructor))).tail;clear hH2;refine ⟨STT,?_⟩;intro a hA)))))
      all_goals (refine ⟨_,seg_or hB ?_,hH,(hA.sub SBT)⟩;clear hA hH hB;first|exact absurd (by assumption:(!true)=true) (by decide)|exact absurd (by assumption:(!false)=false) (by decide)|exact ⟨fun h=>⟨rfl,dTr h⟩,fun h=>decide_eq_true h.2⟩|exact ⟨fun h=>⟨by omega,dTr h⟩,fun h=>decide_eq_true h.2⟩|exact iff_of_false Bool.false_ne_true (fun h=>absurd h.1 (by decide))|exact iff_of_false Bool.false_ne_true (fun h=>by have:=h.1;omega)|exact iff_of_true rfl ⟨rfl,by omega⟩|exact ⟨fun h=>⟨rfl,by have:=dTr h;omega⟩,fun h=>decide_eq_true (by have:=h.2;omega)⟩|(exfalso;dsimp only at *;omega))
  clear hA hH a w b hbq
  rintro a w ⟨b,hbq,hH,hA⟩
  (refine st_split (fun a w=>∃b:Bool,(b=true↔((((((fx=false∧x≠0)∨(fxs=false∧0<(xs.l.length:Int)))∨(fn=false∧n≠0))∨(fns=false∧0<(ns.l.length:Int)))∨(fr=false∧(r.k≠0∨r.n≠0∨0<(r.ns.l.length:Int)+r.a.l.length)))∨(0≤am∧(va.l.length:Int)≠am))∨(0≤km∧(kids.length:Int)≠km))∧HS w0 noM (cb b7 183 (encSh ⟨fx,fxs,fn,fns,fr,am,km⟩)::cb b5 3 [.int .i64 d]::cb b4 70 (encN (.mk k x xs n ns r va ko kc kids))::cb b3 124 [.pointer (some (bat bK 0))]::cb bK 127 (encKk ⟨oP,nP,cP,g,oA,nA,cA,caps,some bE,some bW,some bJ,some bO⟩ (s.p+1))::sk bE s.ever::sk bW s.now::mpI bJ s.js::sk bO s.op::H) w∧Sl 241 [(132,.bool b),(7,.pointer (some (bat b7 0))),(6,.bool false),(5,.pointer (some (bat b5 0))),(4,.pointer (some (bat b4 0))),(3,.pointer (some (bat b3 0)))] a) 13 ?_ ?_)
  · cases b with
    | true=>
      repeat' (first|(first|(refine GT ?_ ?_<;>intro hg<;>clear hA a<;>intro a hA<;>(first|exact FA|replace hg:=dTr hg|replace hg:=dFa hg|skip))|(refine QT ?_;clear hA a;intro a hA)|(first|(refine BT ?_;clear hA hH;rintro _ w ⟨bN,rfl,hH⟩ a hA)|(refine LT ?_;clear hA hH;rintro _ w ⟨oN,rfl,hH⟩ a hA)|(refine AT ?_;clear hA;rintro _ w ⟨oN,cN,rfl,hH2⟩ a hA;clear hH;have hH:=(hH2 _ (by (repeat constructor))).tail;clear hH2)|(refine S0T ?_;clear hH;rintro _ w hH)))|refine CT ?_|(refine DT ?_ ?_<;>intro hc<;>try (exfalso;omega))|(first|(refine DSK ?_;clear hA a;intro a hA)|(first|(refine DLT ?_;clear hA hH;rintro _ w ⟨oN,rfl,hH⟩;refine ⟨STT,?_⟩;intro a hA)|(refine DAT ?_;clear hA;rintro _ w ⟨oN,cN,rfl,hH2⟩;clear hH;have hH:=(hH2 _ (by (repeat constructor))).tail;clear hH2;refine ⟨STT,?_⟩;intro a hA))))
      exact ⟨true,iff_of_true rfl (.inl (hbq.1 rfl)),hH,(hA.sub SBT)⟩
    | false=>
      have hB:=hb_no hbq
      by_cases hm0:0≤km
      all_goals (repeat' (first|(first|(refine GT ?_ ?_<;>intro hg<;>clear hA a<;>intro a hA<;>(first|exact FA|replace hg:=dTr hg|replace hg:=dFa hg|skip))|(refine QT ?_;clear hA a;intro a hA)|(first|(refine BT ?_;clear hA hH;rintro _ w ⟨bN,rfl,hH⟩ a hA)|(refine LT ?_;clear hA hH;rintro _ w ⟨oN,rfl,hH⟩ a hA)|(refine AT ?_;clear hA;rintro _ w ⟨oN,cN,rfl,hH2⟩ a hA;clear hH;have hH:=(hH2 _ (by (repeat constructor))).tail;clear hH2)|(refine S0T ?_;clear hH;rintro _ w hH)))|refine CT ?_|(refine DT ?_ ?_<;>intro hc<;>try (exfalso;omega))|(first|(refine DSK ?_;clear hA a;intro a hA)|(first|(refine DLT ?_;clear hA hH;rintro _ w ⟨oN,rfl,hH⟩;refine ⟨STT,?_⟩;intro a hA)|(refine DAT ?_;clear hA;rintro _ w ⟨oN,cN,rfl,hH2⟩;clear hH;have hH:=(hH2 _ (by (repeat constructor))).tail;clear hH2;refine ⟨STT,?_⟩;intro a hA)))))
      all_goals (refine ⟨_,seg_or hB ?_,hH,(hA.sub SBT)⟩;clear hA hH hB;first|exact absurd (by assumption:(!true)=true) (by decide)|exact absurd (by assumption:(!false)=false) (by decide)|exact ⟨fun h=>⟨rfl,dTr h⟩,fun h=>decide_eq_true h.2⟩|exact ⟨fun h=>⟨by omega,dTr h⟩,fun h=>decide_eq_true h.2⟩|exact iff_of_false Bool.false_ne_true (fun h=>absurd h.1 (by decide))|exact iff_of_false Bool.false_ne_true (fun h=>by have:=h.1;omega)|exact iff_of_true rfl ⟨rfl,by omega⟩|exact ⟨fun h=>⟨rfl,by have:=dTr h;omega⟩,fun h=>decide_eq_true (by have:=h.2;omega)⟩|(exfalso;dsimp only at *;omega))
  clear hA hH a w b hbq
  rintro a w ⟨b,hbq,hH,hA⟩
  have hbb:b=true↔¬ShpP k x xs.l n ns.l r va.l kids.length:=Iff.trans (b:=badP ⟨fx,fxs,fn,fns,fr,am,km⟩ x n xs.l ns.l r va.l.length kids.length) hbq hbad
  have hk8:=(shK_ok hsh0).1 rfl
  clear hbq hbad hsh0
  refine st_join (fun a w=>(ShpP k x xs.l n ns.l r va.l kids.length∧atsA g s.now (s.p+1) va.l)∧HS w0 noM (cb b5 3 [.int .i64 d]::cb b4 70 (encN (.mk k x xs n ns r va ko kc kids))::cb b3 124 [.pointer (some (bat bK 0))]::cb bK 127 (encKk ⟨oP,nP,cP,g,oA,nA,cA,caps,some bE,some bW,some bJ,some bO⟩ (s.p+1+va.l.length))::sk bE s.ever::sk bW s.now::mpI bJ s.js::sk bO s.op::H) w∧Sl 241 [(6,.bool false),(5,.pointer (some (bat b5 0))),(4,.pointer (some (bat b4 0))),(3,.pointer (some (bat b3 0)))] a) ?_ ?_
  · cases b with
    | true=>
      repeat' (first|(first|(refine GT ?_ ?_<;>intro hg<;>clear hA a<;>intro a hA<;>(first|exact FA|replace hg:=dTr hg|replace hg:=dFa hg|skip))|(refine QT ?_;clear hA a;intro a hA)|(first|(refine BT ?_;clear hA hH;rintro _ w ⟨bN,rfl,hH⟩ a hA)|(refine LT ?_;clear hA hH;rintro _ w ⟨oN,rfl,hH⟩ a hA)|(refine AT ?_;clear hA;rintro _ w ⟨oN,cN,rfl,hH2⟩ a hA;clear hH;have hH:=(hH2 _ (by (repeat constructor))).tail;clear hH2)|(refine S0T ?_;clear hH;rintro _ w hH)))|refine CT ?_|(refine DT ?_ ?_<;>intro hc<;>try (exfalso;omega))|(first|(refine DSK ?_;clear hA a;intro a hA)|(first|(refine DLT ?_;clear hA hH;rintro _ w ⟨oN,rfl,hH⟩;refine ⟨STT,?_⟩;intro a hA)|(refine DAT ?_;clear hA;rintro _ w ⟨oN,cN,rfl,hH2⟩;clear hH;have hH:=(hH2 _ (by (repeat constructor))).tail;clear hH2;refine ⟨STT,?_⟩;intro a hA))))
      exact rt1 (.inl rfl) rfl hA rfl (.inr ⟨pre_no (fun h=>hbb.1 rfl h.2.2.2),rfl,{s with p:=s.p+1},hH.rm 0 |>.rm 0 |>.rm 0 |>.rm 0⟩)
    | false=>
      have hshp:ShpP k x xs.l n ns.l r va.l kids.length:=Classical.not_not.1 (hb_no hbb)
      repeat' (first|(first|(refine GT ?_ ?_<;>intro hg<;>clear hA a<;>intro a hA<;>(first|exact FA|replace hg:=dTr hg|replace hg:=dFa hg|skip))|(refine QT ?_;clear hA a;intro a hA)|(first|(refine BT ?_;clear hA hH;rintro _ w ⟨bN,rfl,hH⟩ a hA)|(refine LT ?_;clear hA hH;rintro _ w ⟨oN,rfl,hH⟩ a hA)|(refine AT ?_;clear hA;rintro _ w ⟨oN,cN,rfl,hH2⟩ a hA;clear hH;have hH:=(hH2 _ (by (repeat constructor))).tail;clear hH2)|(refine S0T ?_;clear hH;rintro _ w hH)))|refine CT ?_|(refine DT ?_ ?_<;>intro hc<;>try (exfalso;omega))|(first|(refine DSK ?_;clear hA a;intro a hA)|(first|(refine DLT ?_;clear hA hH;rintro _ w ⟨oN,rfl,hH⟩;refine ⟨STT,?_⟩;intro a hA)|(refine DAT ?_;clear hA;rintro _ w ⟨oN,cN,rfl,hH2⟩;clear hH;have hH:=(hH2 _ (by (repeat constructor))).tail;clear hH2;refine ⟨STT,?_⟩;intro a hA))))
      (refine st_op hA rfl rfl (by decide) (op_call rfl rfl rfl (atomsN_spec w0 _ (sk bE s.ever::mpI bJ s.js::sk bO s.op::cb b7 183 (encSh ⟨fx,fxs,fn,fns,fr,am,km⟩)::cb b5 3 [.int .i64 d]::cb b4 70 (encN (.mk k x xs n ns r va ko kc kids))::cb b3 124 [.pointer (some (bat bK 0))]::H) ⟨oP,nP,cP,g,oA,nA,cA,caps,some bE,some bW,some bJ,some bO⟩ bK bW (s.p+1) s.now va rfl (hH.perm PMT) h5.1 (by omega) (by omega))) ?_;clear hA hH)
      rintro _ w (⟨hat,rfl,hH⟩| ⟨hat,rfl,p',hH⟩) a hA
      · repeat' (first|(first|(refine GT ?_ ?_<;>intro hg<;>clear hA a<;>intro a hA<;>(first|exact FA|replace hg:=dTr hg|replace hg:=dFa hg|skip))|(refine QT ?_;clear hA a;intro a hA)|(first|(refine BT ?_;clear hA hH;rintro _ w ⟨bN,rfl,hH⟩ a hA)|(refine LT ?_;clear hA hH;rintro _ w ⟨oN,rfl,hH⟩ a hA)|(refine AT ?_;clear hA;rintro _ w ⟨oN,cN,rfl,hH2⟩ a hA;clear hH;have hH:=(hH2 _ (by (repeat constructor))).tail;clear hH2)|(refine S0T ?_;clear hH;rintro _ w hH)))|refine CT ?_|(refine DT ?_ ?_<;>intro hc<;>try (exfalso;omega))|(first|(refine DSK ?_;clear hA a;intro a hA)|(first|(refine DLT ?_;clear hA hH;rintro _ w ⟨oN,rfl,hH⟩;refine ⟨STT,?_⟩;intro a hA)|(refine DAT ?_;clear hA;rintro _ w ⟨oN,cN,rfl,hH2⟩;clear hH;have hH:=(hH2 _ (by (repeat constructor))).tail;clear hH2;refine ⟨STT,?_⟩;intro a hA))))
        exact ⟨⟨hshp,hat⟩,(hH.rm 5).perm PMT,(hA.sub SBT)⟩
      · repeat' (first|(first|(refine GT ?_ ?_<;>intro hg<;>clear hA a<;>intro a hA<;>(first|exact FA|replace hg:=dTr hg|replace hg:=dFa hg|skip))|(refine QT ?_;clear hA a;intro a hA)|(first|(refine BT ?_;clear hA hH;rintro _ w ⟨bN,rfl,hH⟩ a hA)|(refine LT ?_;clear hA hH;rintro _ w ⟨oN,rfl,hH⟩ a hA)|(refine AT ?_;clear hA;rintro _ w ⟨oN,cN,rfl,hH2⟩ a hA;clear hH;have hH:=(hH2 _ (by (repeat constructor))).tail;clear hH2)|(refine S0T ?_;clear hH;rintro _ w hH)))|refine CT ?_|(refine DT ?_ ?_<;>intro hc<;>try (exfalso;omega))|(first|(refine DSK ?_;clear hA a;intro a hA)|(first|(refine DLT ?_;clear hA hH;rintro _ w ⟨oN,rfl,hH⟩;refine ⟨STT,?_⟩;intro a hA)|(refine DAT ?_;clear hA;rintro _ w ⟨oN,cN,rfl,hH2⟩;clear hH;have hH:=(hH2 _ (by (repeat constructor))).tail;clear hH2;refine ⟨STT,?_⟩;intro a hA))))
        exact rt1 (.inl rfl) rfl hA rfl (.inr ⟨pre_at hat,rfl,{s with p:=p'},(hH.rm 5 |>.rm 5 |>.rm 5 |>.rm 5).perm PMT⟩)
  clear hA hH a w hbb b
  rintro a w ⟨⟨hshp,hat⟩,hH,hA⟩
  have hpre:=pre_yes (la:=la) (mine:=caps) (ko:=ko) (kc:=kc) ⟨hk8,hpp,hdd,hshp⟩ hat
  have hs1:=preF_ok hs hpre
  have hbF:=bodyF_pre (la:=la) (mine:=caps) hpre
  obtain ⟨s1,hs1e⟩:∃t:CS,t={s with p:=s.p+1+va.l.length}:=⟨_,rfl⟩
  rw [←hs1e] at hbF hs1
  have hH1:HS w0 noM (cb bK 127 (encKk ⟨oP,nP,cP,g,oA,nA,cA,caps,some bE,some bW,some bJ,some bO⟩ (s1).p)::sk bE (s1).ever::sk bW (s1).now::mpI bJ (s1).js::sk bO (s1).op::cb b5 3 [.int .i64 d]::cb b4 70 (encN (.mk k x xs n ns r va ko kc kids))::cb b3 124 [.pointer (some (bat bK 0))]::H) w:=by rw [hs1e];exact hH.perm PMT
  clear hH
  have hH:=hH1
  clear hH1 hs1e hpre
  repeat refine CT ?_
  by_cases hk1:k=1
  · have hkl:=hshp.kids.1 hk1
    obtain ⟨b1,hx⟩:=one_kid (l:=kids) (i:=0) (by omega)
    rw [restF,if_pos hk1] at hbF
    simp only [firstF_at hx] at hbF
    have hb1:=hb b1 (List.mem_of_getElem? hx)
    have hvs:=flat_all encN_len hx
    have hsp:Sp ko kids.length:=h6.1.1.sp (sz:=11) (flat_length encN_len _) (by omega)
    obtain ⟨inn,hinn⟩:∃t,t=((stepF g la caps r s1).bind (bindF [x])).bind (bodyF g la caps b1 (d+1)):=⟨_,rfl⟩
    have hbF2:bodyF g la caps (.mk k x xs n ns r va ko kc kids) d s=inn.map (unbF [x]):=by rw [hbF,hinn,Option.map_bind];rfl
    clear hbF
    repeat' (first|(first|(refine GT ?_ ?_<;>intro hg<;>clear hA a<;>intro a hA<;>(first|exact FA|replace hg:=dTr hg|replace hg:=dFa hg|skip))|(refine QT ?_;clear hA a;intro a hA)|(first|(refine BT ?_;clear hA hH;rintro _ w ⟨bN,rfl,hH⟩ a hA)|(refine LT ?_;clear hA hH;rintro _ w ⟨oN,rfl,hH⟩ a hA)|(refine AT ?_;clear hA;rintro _ w ⟨oN,cN,rfl,hH2⟩ a hA;clear hH;have hH:=(hH2 _ (by (repeat constructor))).tail;clear hH2)|(refine S0T ?_;clear hH;rintro _ w hH)))|refine CT ?_|(refine DT ?_ ?_<;>intro hc<;>try (exfalso;omega))|(first|(refine DSK ?_;clear hA a;intro a hA)|(first|(refine DLT ?_;clear hA hH;rintro _ w ⟨oN,rfl,hH⟩;refine ⟨STT,?_⟩;intro a hA)|(refine DAT ?_;clear hA;rintro _ w ⟨oN,cN,rfl,hH2⟩;clear hH;have hH:=(hH2 _ (by (repeat constructor))).tail;clear hH2;refine ⟨STT,?_⟩;intro a hA))))
    refine st_reg (fun a w=>∃(b:Bool) (s2:CS),(b=true→inn=some s2)∧(b=false→inn=none)∧HS w0 noM (cb bK 127 (encKk ⟨oP,nP,cP,g,oA,nA,cA,caps,some bE,some bW,some bJ,some bO⟩ (s2).p)::sk bE (s2).ever::sk bW (s2).now::mpI bJ (s2).js::sk bO (s2).op::cb b5 3 [.int .i64 d]::cb b4 70 (encN (.mk k x xs n ns r va ko kc kids))::cb b3 124 [.pointer (some (bat bK 0))]::H) w∧Sl 241 [(9,.bool b),(6,.bool false),(5,.pointer (some (bat b5 0))),(4,.pointer (some (bat b4 0))),(3,.pointer (some (bat b3 0)))] a) ?_ ?_
    · (refine wp_draw_HS (H:=[_,_,_]) [(0,1),(1,1),(2,1),(3,0),(4,1),(5,1),(6,1),(7,1),(8,0),(9,0),(10,1),(11,1),(12,1),(13,1),(14,1),(15,1),(16,1),(17,1),(18,1),(19,0),(20,1),(21,1)] mixed (by decide +kernel) (three5 hH) ?_;replace hH:=hH.drew)
      repeat' (first|(first|(refine GT ?_ ?_<;>intro hg<;>clear hA a<;>intro a hA<;>(first|exact FA|replace hg:=dTr hg|replace hg:=dFa hg|skip))|(refine XT ?_;apply XE;(first|(apply ex_load_st (vs:=encSt r);rfl;rfl;exact cls_cb MEMT sub_R));clear hA a;intro a hA)|(refine QT ?_;clear hA a;intro a hA)|(first|(refine BT ?_;clear hA hH;rintro _ w ⟨bN,rfl,hH⟩ a hA)|(refine LT ?_;clear hA hH;rintro _ w ⟨oN,rfl,hH⟩ a hA)|(refine AT ?_;clear hA;rintro _ w ⟨oN,cN,rfl,hH2⟩ a hA;clear hH;have hH:=(hH2 _ (by (repeat constructor))).tail;clear hH2)|(refine S0T ?_;clear hH;rintro _ w hH)))|refine CT ?_|(refine DT ?_ ?_<;>intro hc<;>try (exfalso;omega))|(first|(refine DSK ?_;clear hA a;intro a hA)|(first|(refine DLT ?_;clear hA hH;rintro _ w ⟨oN,rfl,hH⟩;refine ⟨STT,?_⟩;intro a hA)|(refine DAT ?_;clear hA;rintro _ w ⟨oN,cN,rfl,hH2⟩;clear hH;have hH:=(hH2 _ (by (repeat constructor))).tail;clear hH2;refine ⟨STT,?_⟩;intro a hA))))
      (refine dr_op hA rfl rfl rfl (by decide) (op_call rfl rfl rfl (stepN_spec w0 _ (sk bE s1.ever::mpI bJ s1.js::sk bO s1.op::cb b5 3 [.int .i64 d]::cb b4 70 (encN (.mk k x xs n ns r va ko kc kids))::cb b3 124 [.pointer (some (bat bK 0))]::H) ⟨oP,nP,cP,g,oA,nA,cA,caps,some bE,some bW,some bJ,some bO⟩ bK bW s1.p s1.now la r rfl (hH.perm PMT) (.tail _ (.tail _ (.tail _ (.tail _ (.tail _ (.tail _ hm)))))) hn hla h3.1 h4.1 hs1.p0 hs1.p1)) ?_;clear hA hH)
      rintro _ w (⟨hst,rfl,hH⟩| ⟨hst,rfl,p',hH⟩)
      rotate_left
      · have hF:stepF g la caps r s1=none:=by
          unfold stepF
          split
          · next h1=>exact if_neg fun h2=>hst ⟨h1,h2⟩
          · rfl
        rw [hF] at hinn
        replace hH:HS w0 noM (cb bK 127 (encKk ⟨oP,nP,cP,g,oA,nA,cA,caps,some bE,some bW,some bJ,some bO⟩ ({s1 with p:=p'}).p)::sk bE ({s1 with p:=p'}).ever::sk bW ({s1 with p:=p'}).now::mpI bJ ({s1 with p:=p'}).js::sk bO ({s1 with p:=p'}).op::cb b5 3 [.int .i64 d]::cb b4 70 (encN (.mk k x xs n ns r va ko kc kids))::cb b3 124 [.pointer (some (bat bK 0))]::H) w:=hH.perm PMT
        refine ⟨three5 hH,?_⟩
        intro a hA
        repeat' (first|(first|(refine GT ?_ ?_<;>intro hg<;>clear hA a<;>intro a hA<;>(first|exact FA|replace hg:=dTr hg|replace hg:=dFa hg|skip))|(refine QT ?_;clear hA a;intro a hA)|(first|(refine BT ?_;clear hA hH;rintro _ w ⟨bN,rfl,hH⟩ a hA)|(refine LT ?_;clear hA hH;rintro _ w ⟨oN,rfl,hH⟩ a hA)|(refine AT ?_;clear hA;rintro _ w ⟨oN,cN,rfl,hH2⟩ a hA;clear hH;have hH:=(hH2 _ (by (repeat constructor))).tail;clear hH2)|(refine S0T ?_;clear hH;rintro _ w hH)))|refine CT ?_|(refine DT ?_ ?_<;>intro hc<;>try (exfalso;omega))|(first|(refine DSK ?_;clear hA a;intro a hA)|(first|(refine DLT ?_;clear hA hH;rintro _ w ⟨oN,rfl,hH⟩;refine ⟨STT,?_⟩;intro a hA)|(refine DAT ?_;clear hA;rintro _ w ⟨oN,cN,rfl,hH2⟩;clear hH;have hH:=(hH2 _ (by (repeat constructor))).tail;clear hH2;refine ⟨STT,?_⟩;intro a hA)))|(refine dr_opskip hA rfl rfl rfl (by decide) (three5 hH) ?_;clear hA a;intro a hA))
        exact ⟨false,_,fun h=>(by cases h),fun _=>hinn,hH,(hA.sub SBT)⟩
      have hF:stepF g la caps r s1=some {s1 with p:=s1.p+r.a.l.length}:=(if_pos hst.1).trans (if_pos hst.2)
      rw [hF,Option.bind_some] at hinn
      replace hH:HS w0 noM (cb bK 127 (encKk ⟨oP,nP,cP,g,oA,nA,cA,caps,some bE,some bW,some bJ,some bO⟩ ({s1 with p:=s1.p+r.a.l.length}).p)::sk bE ({s1 with p:=s1.p+r.a.l.length}).ever::sk bW ({s1 with p:=s1.p+r.a.l.length}).now::mpI bJ ({s1 with p:=s1.p+r.a.l.length}).js::sk bO ({s1 with p:=s1.p+r.a.l.length}).op::cb b5 3 [.int .i64 d]::cb b4 70 (encN (.mk k x xs n ns r va ko kc kids))::cb b3 124 [.pointer (some (bat bK 0))]::H) w:=hH.perm PMT
      have hs2:=stepF_ok hs1 hF
      obtain ⟨s2,hs2e⟩:∃t:CS,t={s1 with p:=s1.p+r.a.l.length}:=⟨_,rfl⟩
      rw [←hs2e] at hinn hs2 hH
      clear hF hs2e
      refine ⟨three5 hH,?_⟩
      intro a hA
      repeat' (first|(first|(refine GT ?_ ?_<;>intro hg<;>clear hA a<;>intro a hA<;>(first|exact FA|replace hg:=dTr hg|replace hg:=dFa hg|skip))|(refine QT ?_;clear hA a;intro a hA)|(first|(refine BT ?_;clear hA hH;rintro _ w ⟨bN,rfl,hH⟩ a hA)|(refine LT ?_;clear hA hH;rintro _ w ⟨oN,rfl,hH⟩ a hA)|(refine AT ?_;clear hA;rintro _ w ⟨oN,cN,rfl,hH2⟩ a hA;clear hH;have hH:=(hH2 _ (by (repeat constructor))).tail;clear hH2)|(refine S0T ?_;clear hH;rintro _ w hH)))|refine CT ?_|(refine DT ?_ ?_<;>intro hc<;>try (exfalso;omega))|(first|(refine DSK ?_;clear hA a;intro a hA)|(first|(refine DLT ?_;clear hA hH;rintro _ w ⟨oN,rfl,hH⟩;refine ⟨STT,?_⟩;intro a hA)|(refine DAT ?_;clear hA;rintro _ w ⟨oN,cN,rfl,hH2⟩;clear hH;have hH:=(hH2 _ (by (repeat constructor))).tail;clear hH2;refine ⟨STT,?_⟩;intro a hA))))
      (apply dr_op hA rfl rfl rfl (by decide);apply op_sliceLit;rfl;rfl;exact CATST;rfl;rfl;rfl;exact hH;clear hA hH;rintro _ w ⟨oN,rfl,hH⟩;refine ⟨three6 hH,?_⟩;intro a hA)
      replace hH:HS w0 noM ((cb bK 127 (encKk ⟨oP,nP,cP,g,oA,nA,cA,caps,some bE,some bW,some bJ,some bO⟩ (s2).p)::sk bE (s2).ever::sk bW (s2).now::mpI bJ (s2).js::sk bO (s2).op::own 3 1 oN 1 1 [.int .i64 x]::cb b5 3 [.int .i64 d]::cb b4 70 (encN (.mk k x xs n ns r va ko kc kids))::cb b3 124 [.pointer (some (bat bK 0))]::H)) w:=hH.perm PMT
      (refine dr_op hA rfl rfl rfl (by decide) (op_call rfl rfl rfl (bindN_spec w0 _ (mpI bJ s2.js::sk bO s2.op::own 3 1 oN 1 1 [.int .i64 x]::cb b5 3 [.int .i64 d]::cb b4 70 (encN (.mk k x xs n ns r va ko kc kids))::cb b3 124 [.pointer (some (bat bK 0))]::H) ⟨oP,nP,cP,g,oA,nA,cA,caps,some bE,some bW,some bJ,some bO⟩ bK bE bW s2.p s2.ever s2.now ⟨oN,1,[x]⟩ rfl rfl hH (fun _ _ _ hw=>own1_rd (x:=x) hw (by exact MEMT)) (Nat.le_of_ble_eq_true rfl) hs2.now)) ?_;clear hA hH)
      rintro _ w (⟨q,hq,rfl,hH⟩| ⟨hq,rfl,es',ks',hH⟩)
      rotate_left
      · have hF:bindF [x] s2=none:=by unfold bindF;rw [hq];rfl
        rw [hF] at hinn
        replace hH:HS w0 noM ((cb bK 127 (encKk ⟨oP,nP,cP,g,oA,nA,cA,caps,some bE,some bW,some bJ,some bO⟩ ({s2 with ever:=es',now:=ks'}).p)::sk bE ({s2 with ever:=es',now:=ks'}).ever::sk bW ({s2 with ever:=es',now:=ks'}).now::mpI bJ ({s2 with ever:=es',now:=ks'}).js::sk bO ({s2 with ever:=es',now:=ks'}).op::own 3 1 oN 1 1 [.int .i64 x]::cb b5 3 [.int .i64 d]::cb b4 70 (encN (.mk k x xs n ns r va ko kc kids))::cb b3 124 [.pointer (some (bat bK 0))]::H)) w:=hH
        refine ⟨three6 hH,?_⟩
        intro a hA
        repeat' (first|(first|(refine GT ?_ ?_<;>intro hg<;>clear hA a<;>intro a hA<;>(first|exact FA|replace hg:=dTr hg|replace hg:=dFa hg|skip))|(refine QT ?_;clear hA a;intro a hA)|(first|(refine BT ?_;clear hA hH;rintro _ w ⟨bN,rfl,hH⟩ a hA)|(refine LT ?_;clear hA hH;rintro _ w ⟨oN,rfl,hH⟩ a hA)|(refine AT ?_;clear hA;rintro _ w ⟨oN,cN,rfl,hH2⟩ a hA;clear hH;have hH:=(hH2 _ (by (repeat constructor))).tail;clear hH2)|(refine S0T ?_;clear hH;rintro _ w hH)))|refine CT ?_|(refine DT ?_ ?_<;>intro hc<;>try (exfalso;omega))|(first|(refine DSK ?_;clear hA a;intro a hA)|(first|(refine DLT ?_;clear hA hH;rintro _ w ⟨oN,rfl,hH⟩;refine ⟨STT,?_⟩;intro a hA)|(refine DAT ?_;clear hA;rintro _ w ⟨oN,cN,rfl,hH2⟩;clear hH;have hH:=(hH2 _ (by (repeat constructor))).tail;clear hH2;refine ⟨STT,?_⟩;intro a hA)))|(refine dr_opskip hA rfl rfl rfl (by decide) (three6 hH) ?_;clear hA a;intro a hA))
        exact ⟨false,_,fun h=>(by cases h),fun _=>hinn,hH.rm 5,(hA.sub SBT)⟩
      have hF:bindF [x] s2=some {s2 with ever:=q.1,now:=q.2}:=by unfold bindF;rw [hq];rfl
      rw [hF,Option.bind_some] at hinn
      have hs3:=bindF_ok hs2 hF
      replace hH:HS w0 noM ((cb bK 127 (encKk ⟨oP,nP,cP,g,oA,nA,cA,caps,some bE,some bW,some bJ,some bO⟩ ({s2 with ever:=q.1,now:=q.2}).p)::sk bE ({s2 with ever:=q.1,now:=q.2}).ever::sk bW ({s2 with ever:=q.1,now:=q.2}).now::mpI bJ ({s2 with ever:=q.1,now:=q.2}).js::sk bO ({s2 with ever:=q.1,now:=q.2}).op::own 3 1 oN 1 1 [.int .i64 x]::cb b5 3 [.int .i64 d]::cb b4 70 (encN (.mk k x xs n ns r va ko kc kids))::cb b3 124 [.pointer (some (bat bK 0))]::H)) w:=hH
      obtain ⟨s3,hs3e⟩:∃t:CS,t={s2 with ever:=q.1,now:=q.2}:=⟨_,rfl⟩
      rw [←hs3e] at hinn hs3 hH
      clear hF hs3e hq
      refine ⟨three6 hH,?_⟩
      intro a hA
      obtain ⟨k',x',xs',n',ns',r',va',ko',kc',kids'⟩:=b1
      repeat' (first|(first|(refine GT ?_ ?_<;>intro hg<;>clear hA a<;>intro a hA<;>(first|exact FA|replace hg:=dTr hg|replace hg:=dFa hg|skip))|(refine XT ?_;apply XE;(first|(apply ex_indexAddr;rfl;rfl;omega;omega;exact hsp)|(apply ex_load_st (vs:=encN (.mk k' x' xs' n' ns' r' va' ko' kc' kids'));rfl;rfl;exact cls_rd h6.1.1 id hvs));clear hA a;intro a hA)|(refine QT ?_;clear hA a;intro a hA)|(first|(refine BT ?_;clear hA hH;rintro _ w ⟨bN,rfl,hH⟩ a hA)|(refine LT ?_;clear hA hH;rintro _ w ⟨oN,rfl,hH⟩ a hA)|(refine AT ?_;clear hA;rintro _ w ⟨oN,cN,rfl,hH2⟩ a hA;clear hH;have hH:=(hH2 _ (by (repeat constructor))).tail;clear hH2)|(refine S0T ?_;clear hH;rintro _ w hH)))|refine CT ?_|(refine DT ?_ ?_<;>intro hc<;>try (exfalso;omega))|(first|(refine DSK ?_;clear hA a;intro a hA)|(first|(refine DLT ?_;clear hA hH;rintro _ w ⟨oN,rfl,hH⟩;refine ⟨STT,?_⟩;intro a hA)|(refine DAT ?_;clear hA;rintro _ w ⟨oN,cN,rfl,hH2⟩;clear hH;have hH:=(hH2 _ (by (repeat constructor))).tail;clear hH2;refine ⟨STT,?_⟩;intro a hA))))
      (refine dr_op hA rfl rfl rfl (by decide) (op_call rfl rfl rfl (hb1 (own 3 1 oN 1 1 [.int .i64 x]::cb b5 3 [.int .i64 d]::cb b4 70 (encN (.mk k x xs n ns r va ko kc kids))::cb b3 124 [.pointer (some (bat bK 0))]::H) _ (d+1) s3 (.tail _ (.tail _ (.tail _ (.tail _ hm)))) hs3 (by omega) (by omega) hH)) ?_;clear hA hH)
      rintro _ w (⟨s4,he,rfl,hH⟩| ⟨he,rfl,s4,hH⟩)
      · refine ⟨three6 hH,?_⟩
        intro a hA
        repeat' (first|(first|(refine GT ?_ ?_<;>intro hg<;>clear hA a<;>intro a hA<;>(first|exact FA|replace hg:=dTr hg|replace hg:=dFa hg|skip))|(refine QT ?_;clear hA a;intro a hA)|(first|(refine BT ?_;clear hA hH;rintro _ w ⟨bN,rfl,hH⟩ a hA)|(refine LT ?_;clear hA hH;rintro _ w ⟨oN,rfl,hH⟩ a hA)|(refine AT ?_;clear hA;rintro _ w ⟨oN,cN,rfl,hH2⟩ a hA;clear hH;have hH:=(hH2 _ (by (repeat constructor))).tail;clear hH2)|(refine S0T ?_;clear hH;rintro _ w hH)))|refine CT ?_|(refine DT ?_ ?_<;>intro hc<;>try (exfalso;omega))|(first|(refine DSK ?_;clear hA a;intro a hA)|(first|(refine DLT ?_;clear hA hH;rintro _ w ⟨oN,rfl,hH⟩;refine ⟨STT,?_⟩;intro a hA)|(refine DAT ?_;clear hA;rintro _ w ⟨oN,cN,rfl,hH2⟩;clear hH;have hH:=(hH2 _ (by (repeat constructor))).tail;clear hH2;refine ⟨STT,?_⟩;intro a hA))))
        exact ⟨true,s4,fun _=>hinn.trans he,fun h=>(by cases h),hH.rm 5,(hA.sub SBT)⟩
      · refine ⟨three6 hH,?_⟩
        intro a hA
        repeat' (first|(first|(refine GT ?_ ?_<;>intro hg<;>clear hA a<;>intro a hA<;>(first|exact FA|replace hg:=dTr hg|replace hg:=dFa hg|skip))|(refine QT ?_;clear hA a;intro a hA)|(first|(refine BT ?_;clear hA hH;rintro _ w ⟨bN,rfl,hH⟩ a hA)|(refine LT ?_;clear hA hH;rintro _ w ⟨oN,rfl,hH⟩ a hA)|(refine AT ?_;clear hA;rintro _ w ⟨oN,cN,rfl,hH2⟩ a hA;clear hH;have hH:=(hH2 _ (by (repeat constructor))).tail;clear hH2)|(refine S0T ?_;clear hH;rintro _ w hH)))|refine CT ?_|(refine DT ?_ ?_<;>intro hc<;>try (exfalso;omega))|(first|(refine DSK ?_;clear hA a;intro a hA)|(first|(refine DLT ?_;clear hA hH;rintro _ w ⟨oN,rfl,hH⟩;refine ⟨STT,?_⟩;intro a hA)|(refine DAT ?_;clear hA;rintro _ w ⟨oN,cN,rfl,hH2⟩;clear hH;have hH:=(hH2 _ (by (repeat constructor))).tail;clear hH2;refine ⟨STT,?_⟩;intro a hA))))
        exact ⟨false,s4,fun h=>(by cases h),fun _=>hinn.trans he,hH.rm 5,(hA.sub SBT)⟩
    clear hA hH hinn a w
    rintro a w ⟨b,s2,hbt,hbf,hH,hA⟩
    repeat' (first|(first|(refine GT ?_ ?_<;>intro hg<;>clear hA a<;>intro a hA<;>(first|exact FA|replace hg:=dTr hg|replace hg:=dFa hg|skip))|(refine QT ?_;clear hA a;intro a hA)|(first|(refine BT ?_;clear hA hH;rintro _ w ⟨bN,rfl,hH⟩ a hA)|(refine LT ?_;clear hA hH;rintro _ w ⟨oN,rfl,hH⟩ a hA)|(refine AT ?_;clear hA;rintro _ w ⟨oN,cN,rfl,hH2⟩ a hA;clear hH;have hH:=(hH2 _ (by (repeat constructor))).tail;clear hH2)|(refine S0T ?_;clear hH;rintro _ w hH)))|refine CT ?_|(refine DT ?_ ?_<;>intro hc<;>try (exfalso;omega))|(first|(refine DSK ?_;clear hA a;intro a hA)|(first|(refine DLT ?_;clear hA hH;rintro _ w ⟨oN,rfl,hH⟩;refine ⟨STT,?_⟩;intro a hA)|(refine DAT ?_;clear hA;rintro _ w ⟨oN,cN,rfl,hH2⟩;clear hH;have hH:=(hH2 _ (by (repeat constructor))).tail;clear hH2;refine ⟨STT,?_⟩;intro a hA))))
    (refine st_op hA rfl rfl (by decide) (op_call rfl rfl rfl (unbN_spec w0 _ (sk bE s2.ever::mpI bJ s2.js::sk bO s2.op::own 3 1 oN 1 1 [.int .i64 x]::cb b5 3 [.int .i64 d]::cb b4 70 (encN (.mk k x xs n ns r va ko kc kids))::cb b3 124 [.pointer (some (bat bK 0))]::H) ⟨oP,nP,cP,g,oA,nA,cA,caps,some bE,some bW,some bJ,some bO⟩ bK bW s2.p s2.now ⟨oN,1,[x]⟩ rfl (hH.perm PMT) (fun _ _ hw=>own1_rd (x:=x) hw (by exact MEMT)) (Nat.le_of_ble_eq_true rfl))) ?_;clear hA hH)
    rintro _ w ⟨rfl,hH⟩ a hA
    replace hH:HS w0 noM (cb bK 127 (encKk ⟨oP,nP,cP,g,oA,nA,cA,caps,some bE,some bW,some bJ,some bO⟩ (unbF [x] s2).p)::sk bE (unbF [x] s2).ever::sk bW (unbF [x] s2).now::mpI bJ (unbF [x] s2).js::sk bO (unbF [x] s2).op::H) w:=(hH.rm 5 |>.rm 5 |>.rm 5 |>.rm 5).perm PMT
    cases b with
    | true=>
      repeat' (first|(first|(refine GT ?_ ?_<;>intro hg<;>clear hA a<;>intro a hA<;>(first|exact FA|replace hg:=dTr hg|replace hg:=dFa hg|skip))|(refine QT ?_;clear hA a;intro a hA)|(first|(refine BT ?_;clear hA hH;rintro _ w ⟨bN,rfl,hH⟩ a hA)|(refine LT ?_;clear hA hH;rintro _ w ⟨oN,rfl,hH⟩ a hA)|(refine AT ?_;clear hA;rintro _ w ⟨oN,cN,rfl,hH2⟩ a hA;clear hH;have hH:=(hH2 _ (by (repeat constructor))).tail;clear hH2)|(refine S0T ?_;clear hH;rintro _ w hH)))|refine CT ?_|(refine DT ?_ ?_<;>intro hc<;>try (exfalso;omega))|(first|(refine DSK ?_;clear hA a;intro a hA)|(first|(refine DLT ?_;clear hA hH;rintro _ w ⟨oN,rfl,hH⟩;refine ⟨STT,?_⟩;intro a hA)|(refine DAT ?_;clear hA;rintro _ w ⟨oN,cN,rfl,hH2⟩;clear hH;have hH:=(hH2 _ (by (repeat constructor))).tail;clear hH2;refine ⟨STT,?_⟩;intro a hA))))
      exact rt1 (.inl rfl) rfl hA rfl (.inl ⟨_,hbF2.trans (by rw [hbt rfl];rfl),rfl,hH⟩)
    | false=>
      repeat' (first|(first|(refine GT ?_ ?_<;>intro hg<;>clear hA a<;>intro a hA<;>(first|exact FA|replace hg:=dTr hg|replace hg:=dFa hg|skip))|(refine QT ?_;clear hA a;intro a hA)|(first|(refine BT ?_;clear hA hH;rintro _ w ⟨bN,rfl,hH⟩ a hA)|(refine LT ?_;clear hA hH;rintro _ w ⟨oN,rfl,hH⟩ a hA)|(refine AT ?_;clear hA;rintro _ w ⟨oN,cN,rfl,hH2⟩ a hA;clear hH;have hH:=(hH2 _ (by (repeat constructor))).tail;clear hH2)|(refine S0T ?_;clear hH;rintro _ w hH)))|refine CT ?_|(refine DT ?_ ?_<;>intro hc<;>try (exfalso;omega))|(first|(refine DSK ?_;clear hA a;intro a hA)|(first|(refine DLT ?_;clear hA hH;rintro _ w ⟨oN,rfl,hH⟩;refine ⟨STT,?_⟩;intro a hA)|(refine DAT ?_;clear hA;rintro _ w ⟨oN,cN,rfl,hH2⟩;clear hH;have hH:=(hH2 _ (by (repeat constructor))).tail;clear hH2;refine ⟨STT,?_⟩;intro a hA))))
      exact rt1 (.inl rfl) rfl hA rfl (.inr ⟨hbF2.trans (by rw [hbf rfl];rfl),rfl,_,hH⟩)
  rw [restF,if_neg hk1] at hbF
  refine st_join (fun a w=>bodyF g la caps (.mk k x xs n ns r va ko kc kids) d s=kidsF g la caps kids (d+1) s1∧HS w0 noM (cb bK 127 (encKk ⟨oP,nP,cP,g,oA,nA,cA,caps,some bE,some bW,some bJ,some bO⟩ (s1).p)::sk bE (s1).ever::sk bW (s1).now::mpI bJ (s1).js::sk bO (s1).op::cb b5 3 [.int .i64 d]::cb b4 70 (encN (.mk k x xs n ns r va ko kc kids))::cb b3 124 [.pointer (some (bat bK 0))]::H) w∧Sl 241 [(6,.bool false),(5,.pointer (some (bat b5 0))),(4,.pointer (some (bat b4 0))),(3,.pointer (some (bat b3 0)))] a) ?_ ?_
  · by_cases hk7:k=7
    · rw [if_pos hk7] at hbF
      repeat' (first|(first|(refine GT ?_ ?_<;>intro hg<;>clear hA a<;>intro a hA<;>(first|exact FA|replace hg:=dTr hg|replace hg:=dFa hg|skip))|(refine QT ?_;clear hA a;intro a hA)|(first|(refine BT ?_;clear hA hH;rintro _ w ⟨bN,rfl,hH⟩ a hA)|(refine LT ?_;clear hA hH;rintro _ w ⟨oN,rfl,hH⟩ a hA)|(refine AT ?_;clear hA;rintro _ w ⟨oN,cN,rfl,hH2⟩ a hA;clear hH;have hH:=(hH2 _ (by (repeat constructor))).tail;clear hH2)|(refine S0T ?_;clear hH;rintro _ w hH)))|refine CT ?_|(refine DT ?_ ?_<;>intro hc<;>try (exfalso;omega))|(first|(refine DSK ?_;clear hA a;intro a hA)|(first|(refine DLT ?_;clear hA hH;rintro _ w ⟨oN,rfl,hH⟩;refine ⟨STT,?_⟩;intro a hA)|(refine DAT ?_;clear hA;rintro _ w ⟨oN,cN,rfl,hH2⟩;clear hH;have hH:=(hH2 _ (by (repeat constructor))).tail;clear hH2;refine ⟨STT,?_⟩;intro a hA))))
      (refine st_op hA rfl rfl (by decide) (op_call rfl rfl rfl (joinN_spec w0 _ (cb b5 3 [.int .i64 d]::cb b4 70 (encN (.mk k x xs n ns r va ko kc kids))::cb b3 124 [.pointer (some (bat bK 0))]::H) ⟨oP,nP,cP,g,oA,nA,cA,caps,some bE,some bW,some bJ,some bO⟩ la bK bE bW bJ bO rfl rfl rfl rfl k x n xs ns r va ko kc kids h1 h6.1 (hshp.kids.2.1 (.inr hk7)) hb d s1 (.tail _ (.tail _ (.tail _ hm))) hs1 hd hdd hH)) ?_;clear hA hH)
      rintro _ w (⟨s',he,rfl,hH⟩| ⟨he,rfl,s',hH⟩) a hA
      · repeat' (first|(first|(refine GT ?_ ?_<;>intro hg<;>clear hA a<;>intro a hA<;>(first|exact FA|replace hg:=dTr hg|replace hg:=dFa hg|skip))|(refine QT ?_;clear hA a;intro a hA)|(first|(refine BT ?_;clear hA hH;rintro _ w ⟨bN,rfl,hH⟩ a hA)|(refine LT ?_;clear hA hH;rintro _ w ⟨oN,rfl,hH⟩ a hA)|(refine AT ?_;clear hA;rintro _ w ⟨oN,cN,rfl,hH2⟩ a hA;clear hH;have hH:=(hH2 _ (by (repeat constructor))).tail;clear hH2)|(refine S0T ?_;clear hH;rintro _ w hH)))|refine CT ?_|(refine DT ?_ ?_<;>intro hc<;>try (exfalso;omega))|(first|(refine DSK ?_;clear hA a;intro a hA)|(first|(refine DLT ?_;clear hA hH;rintro _ w ⟨oN,rfl,hH⟩;refine ⟨STT,?_⟩;intro a hA)|(refine DAT ?_;clear hA;rintro _ w ⟨oN,cN,rfl,hH2⟩;clear hH;have hH:=(hH2 _ (by (repeat constructor))).tail;clear hH2;refine ⟨STT,?_⟩;intro a hA))))
        exact rt1 (.inl rfl) rfl hA rfl (.inl ⟨s',hbF.trans he,rfl,hH.rm 5 |>.rm 5 |>.rm 5⟩)
      · repeat' (first|(first|(refine GT ?_ ?_<;>intro hg<;>clear hA a<;>intro a hA<;>(first|exact FA|replace hg:=dTr hg|replace hg:=dFa hg|skip))|(refine QT ?_;clear hA a;intro a hA)|(first|(refine BT ?_;clear hA hH;rintro _ w ⟨bN,rfl,hH⟩ a hA)|(refine LT ?_;clear hA hH;rintro _ w ⟨oN,rfl,hH⟩ a hA)|(refine AT ?_;clear hA;rintro _ w ⟨oN,cN,rfl,hH2⟩ a hA;clear hH;have hH:=(hH2 _ (by (repeat constructor))).tail;clear hH2)|(refine S0T ?_;clear hH;rintro _ w hH)))|refine CT ?_|(refine DT ?_ ?_<;>intro hc<;>try (exfalso;omega))|(first|(refine DSK ?_;clear hA a;intro a hA)|(first|(refine DLT ?_;clear hA hH;rintro _ w ⟨oN,rfl,hH⟩;refine ⟨STT,?_⟩;intro a hA)|(refine DAT ?_;clear hA;rintro _ w ⟨oN,cN,rfl,hH2⟩;clear hH;have hH:=(hH2 _ (by (repeat constructor))).tail;clear hH2;refine ⟨STT,?_⟩;intro a hA))))
        exact rt1 (.inl rfl) rfl hA rfl (.inr ⟨hbF.trans he,rfl,s',hH.rm 5 |>.rm 5 |>.rm 5⟩)
    rw [if_neg hk7] at hbF
    by_cases hk8:k=8
    · rw [if_pos hk8] at hbF
      repeat' (first|(first|(refine GT ?_ ?_<;>intro hg<;>clear hA a<;>intro a hA<;>(first|exact FA|replace hg:=dTr hg|replace hg:=dFa hg|skip))|(refine XT ?_;apply XE;(first|(apply ex_hasK;rfl;rfl;exact MEMT));clear hA a;intro a hA)|(refine QT ?_;clear hA a;intro a hA)|(first|(refine BT ?_;clear hA hH;rintro _ w ⟨bN,rfl,hH⟩ a hA)|(refine LT ?_;clear hA hH;rintro _ w ⟨oN,rfl,hH⟩ a hA)|(refine AT ?_;clear hA;rintro _ w ⟨oN,cN,rfl,hH2⟩ a hA;clear hH;have hH:=(hH2 _ (by (repeat constructor))).tail;clear hH2)|(refine S0T ?_;clear hH;rintro _ w hH)))|refine CT ?_|(refine DT ?_ ?_<;>intro hc<;>try (exfalso;omega))|(first|(refine DSK ?_;clear hA a;intro a hA)|(first|(refine DLT ?_;clear hA hH;rintro _ w ⟨oN,rfl,hH⟩;refine ⟨STT,?_⟩;intro a hA)|(refine DAT ?_;clear hA;rintro _ w ⟨oN,cN,rfl,hH2⟩;clear hH;have hH:=(hH2 _ (by (repeat constructor))).tail;clear hH2;refine ⟨STT,?_⟩;intro a hA)))|(refine wp_draw_HS [(0,1),(1,1),(2,1),(3,1),(4,1),(5,1),(6,1),(7,1),(8,1),(9,1),(10,1),(11,1),(12,1),(13,1),(14,1),(15,1),(16,1),(17,1),(18,1),(19,1),(20,1)] mixed (by decide +kernel) hH ?_;replace hH:=hH.drew))
      all_goals first
        |exact rt1 (.inl rfl) rfl hA rfl (.inr ⟨hbF.trans (if_neg fun h=>absurd h.1 (by assumption)),rfl,s1,hH.rm 5 |>.rm 5 |>.rm 5⟩)
        |skip
      have hin:n∈s1.op:=by assumption
      by_cases hj8:(va.l.length:Int)=(lkI s1.js n).getD 0
      · exact rt1 (.inl rfl) rfl hA rfl (.inl ⟨s1,hbF.trans (if_pos ⟨hin,hj8⟩),by rw [decide_eq_true hj8],hH.rm 5 |>.rm 5 |>.rm 5⟩)
      · exact rt1 (.inl rfl) rfl hA rfl (.inr ⟨hbF.trans (if_neg fun h=>hj8 h.2),by rw [decide_eq_false hj8],s1,hH.rm 5 |>.rm 5 |>.rm 5⟩)
    rw [if_neg hk8] at hbF
    by_cases hk6:k=6
    · rw [if_pos hk6] at hbF
      have hspN:Sp ns.o ns.l.length:=h2.1.1.sp (sz:=1) (flat_length Fw.encI_len _) (by omega)
      have hNr:=h2.1.1
      repeat' (first|(first|(refine GT ?_ ?_<;>intro hg<;>clear hA a<;>intro a hA<;>(first|exact FA|replace hg:=dTr hg|replace hg:=dFa hg|skip))|(refine QT ?_;clear hA a;intro a hA)|(first|(refine BT ?_;clear hA hH;rintro _ w ⟨bN,rfl,hH⟩ a hA)|(refine LT ?_;clear hA hH;rintro _ w ⟨oN,rfl,hH⟩ a hA)|(refine AT ?_;clear hA;rintro _ w ⟨oN,cN,rfl,hH2⟩ a hA;clear hH;have hH:=(hH2 _ (by (repeat constructor))).tail;clear hH2)|(refine S0T ?_;clear hH;rintro _ w hH)))|refine CT ?_|(refine DT ?_ ?_<;>intro hc<;>try (exfalso;omega))|(first|(refine DSK ?_;clear hA a;intro a hA)|(first|(refine DLT ?_;clear hA hH;rintro _ w ⟨oN,rfl,hH⟩;refine ⟨STT,?_⟩;intro a hA)|(refine DAT ?_;clear hA;rintro _ w ⟨oN,cN,rfl,hH2⟩;clear hH;have hH:=(hH2 _ (by (repeat constructor))).tail;clear hH2;refine ⟨STT,?_⟩;intro a hA))))
      refine wp_lpk (S:=Nat) (fun i a w=>(i≤ns.l.length∧∀k,k<i→upAt ns.l k)∧HS w0 noM (cb bK 127 (encKk ⟨oP,nP,cP,g,oA,nA,cA,caps,some bE,some bW,some bJ,some bO⟩ (s1).p)::sk bE (s1).ever::sk bW (s1).now::mpI bJ (s1).js::sk bO (s1).op::cb b5 3 [.int .i64 d]::cb b4 70 (encN (.mk k x xs n ns r va ko kc kids))::cb b3 124 [.pointer (some (bat bK 0))]::H) w∧Sl 241 [(176,.int .i64 i),(175,.int .i64 ns.l.length),(174,.slice ns.o ns.l.length ns.c),(6,.bool false),(5,.pointer (some (bat b5 0))),(4,.pointer (some (bat b4 0))),(3,.pointer (some (bat b3 0)))] a) (fun i=>ns.l.length - i)
        (fun a w=>upP ns.l∧HS w0 noM (cb bK 127 (encKk ⟨oP,nP,cP,g,oA,nA,cA,caps,some bE,some bW,some bJ,some bO⟩ (s1).p)::sk bE (s1).ever::sk bW (s1).now::mpI bJ (s1).js::sk bO (s1).op::cb b5 3 [.int .i64 d]::cb b4 70 (encN (.mk k x xs n ns r va ko kc kids))::cb b3 124 [.pointer (some (bat bK 0))]::H) w∧Sl 241 [(6,.bool false),(5,.pointer (some (bat b5 0))),(4,.pointer (some (bat b4 0))),(3,.pointer (some (bat b3 0)))] a) 0 ⟨⟨Nat.zero_le _,fun k h=>absurd h (Nat.not_lt_zero _)⟩,hH,(hA.sub SBT)⟩ ?_ ?_
      · clear hA hH
        rintro i a w ⟨⟨hi,hup⟩,hH,hA⟩
        by_cases hlt:i<ns.l.length
        rotate_left
        · obtain rfl:i=ns.l.length:=by omega
          repeat' (first|(first|(refine GT ?_ ?_<;>intro hg<;>clear hA a<;>intro a hA<;>(first|exact FA|replace hg:=dTr hg|replace hg:=dFa hg|skip))|(refine QT ?_;clear hA a;intro a hA)|(first|(refine BT ?_;clear hA hH;rintro _ w ⟨bN,rfl,hH⟩ a hA)|(refine LT ?_;clear hA hH;rintro _ w ⟨oN,rfl,hH⟩ a hA)|(refine AT ?_;clear hA;rintro _ w ⟨oN,cN,rfl,hH2⟩ a hA;clear hH;have hH:=(hH2 _ (by (repeat constructor))).tail;clear hH2)|(refine S0T ?_;clear hH;rintro _ w hH)))|refine CT ?_|(refine DT ?_ ?_<;>intro hc<;>try (exfalso;omega))|(first|(refine DSK ?_;clear hA a;intro a hA)|(first|(refine DLT ?_;clear hA hH;rintro _ w ⟨oN,rfl,hH⟩;refine ⟨STT,?_⟩;intro a hA)|(refine DAT ?_;clear hA;rintro _ w ⟨oN,cN,rfl,hH2⟩;clear hH;have hH:=(hH2 _ (by (repeat constructor))).tail;clear hH2;refine ⟨STT,?_⟩;intro a hA))))
          exact ⟨hup,hH,(hA.sub SBT)⟩
        have e1:((i:Int) - 1).toNat=i - 1:=by omega
        repeat' (first|(first|(refine GT ?_ ?_<;>intro hg<;>clear hA a<;>intro a hA<;>(first|exact FA|replace hg:=dTr hg|replace hg:=dFa hg|skip))|(refine XT ?_;apply XE;(first|(apply ex_indexAddr_nat;rfl;rfl;omega;exact hspN)|(apply ex_indexAddr;rfl;rfl;omega;omega;exact hspN)|(apply ex_load;rfl;refine cl_rd hNr id (ints_at ?_);omega));clear hA a;intro a hA)|(refine QT ?_;clear hA a;intro a hA)|(first|(refine BT ?_;clear hA hH;rintro _ w ⟨bN,rfl,hH⟩ a hA)|(refine LT ?_;clear hA hH;rintro _ w ⟨oN,rfl,hH⟩ a hA)|(refine AT ?_;clear hA;rintro _ w ⟨oN,cN,rfl,hH2⟩ a hA;clear hH;have hH:=(hH2 _ (by (repeat constructor))).tail;clear hH2)|(refine S0T ?_;clear hH;rintro _ w hH)))|refine CT ?_|(refine DT ?_ ?_<;>intro hc<;>try (exfalso;omega))|(first|(refine DSK ?_;clear hA a;intro a hA)|(first|(refine DLT ?_;clear hA hH;rintro _ w ⟨oN,rfl,hH⟩;refine ⟨STT,?_⟩;intro a hA)|(refine DAT ?_;clear hA;rintro _ w ⟨oN,cN,rfl,hH2⟩;clear hH;have hH:=(hH2 _ (by (repeat constructor))).tail;clear hH2;refine ⟨STT,?_⟩;intro a hA))))
        all_goals first
          |exact ⟨i+1,⟨⟨hlt,up_next hup (fun h0=>(by omega))⟩,hH,(hA.sub SBT)⟩,by omega⟩
          |exact ⟨i+1,⟨⟨hlt,up_next hup (fun h0=>(by rw [←e1];omega))⟩,hH,(hA.sub SBT)⟩,by omega⟩
          |exact rt1 (.inl rfl) rfl hA rfl (.inr ⟨hbF.trans (if_neg fun h=>(by have h1:=h.1 i hlt (by omega);rw [←e1] at h1;omega)),rfl,s1,hH.rm 5 |>.rm 5 |>.rm 5⟩)
      clear hA hH a w
      rintro a w ⟨hup,hH,hA⟩
      repeat' (first|(first|(refine GT ?_ ?_<;>intro hg<;>clear hA a<;>intro a hA<;>(first|exact FA|replace hg:=dTr hg|replace hg:=dFa hg|skip))|(refine QT ?_;clear hA a;intro a hA)|(first|(refine BT ?_;clear hA hH;rintro _ w ⟨bN,rfl,hH⟩ a hA)|(refine LT ?_;clear hA hH;rintro _ w ⟨oN,rfl,hH⟩ a hA)|(refine AT ?_;clear hA;rintro _ w ⟨oN,cN,rfl,hH2⟩ a hA;clear hH;have hH:=(hH2 _ (by (repeat constructor))).tail;clear hH2)|(refine S0T ?_;clear hH;rintro _ w hH)))|refine CT ?_|(refine DT ?_ ?_<;>intro hc<;>try (exfalso;omega))|(first|(refine DSK ?_;clear hA a;intro a hA)|(first|(refine DLT ?_;clear hA hH;rintro _ w ⟨oN,rfl,hH⟩;refine ⟨STT,?_⟩;intro a hA)|(refine DAT ?_;clear hA;rintro _ w ⟨oN,cN,rfl,hH2⟩;clear hH;have hH:=(hH2 _ (by (repeat constructor))).tail;clear hH2;refine ⟨STT,?_⟩;intro a hA))))
      all_goals first
        |exact ⟨hbF.trans (if_pos ⟨hup,fun h=>(by have:=len_nil h;omega),by omega⟩),hH,(hA.sub SBT)⟩
        |exact rt1 (.inl rfl) rfl hA rfl (.inr ⟨hbF.trans (if_neg fun h=>h.2.1 (List.eq_nil_of_length_eq_zero (by omega))),rfl,s1,hH.rm 5 |>.rm 5 |>.rm 5⟩)
        |exact rt1 (.inl rfl) rfl hA rfl (.inr ⟨hbF.trans (if_neg fun h=>(by have:=h.2.2;omega)),rfl,s1,hH.rm 5 |>.rm 5 |>.rm 5⟩)
    rw [if_neg hk6] at hbF
    repeat' (first|(first|(refine GT ?_ ?_<;>intro hg<;>clear hA a<;>intro a hA<;>(first|exact FA|replace hg:=dTr hg|replace hg:=dFa hg|skip))|(refine QT ?_;clear hA a;intro a hA)|(first|(refine BT ?_;clear hA hH;rintro _ w ⟨bN,rfl,hH⟩ a hA)|(refine LT ?_;clear hA hH;rintro _ w ⟨oN,rfl,hH⟩ a hA)|(refine AT ?_;clear hA;rintro _ w ⟨oN,cN,rfl,hH2⟩ a hA;clear hH;have hH:=(hH2 _ (by (repeat constructor))).tail;clear hH2)|(refine S0T ?_;clear hH;rintro _ w hH)))|refine CT ?_|(refine DT ?_ ?_<;>intro hc<;>try (exfalso;omega))|(first|(refine DSK ?_;clear hA a;intro a hA)|(first|(refine DLT ?_;clear hA hH;rintro _ w ⟨oN,rfl,hH⟩;refine ⟨STT,?_⟩;intro a hA)|(refine DAT ?_;clear hA;rintro _ w ⟨oN,cN,rfl,hH2⟩;clear hH;have hH:=(hH2 _ (by (repeat constructor))).tail;clear hH2;refine ⟨STT,?_⟩;intro a hA))))
    exact ⟨hbF,hH,(hA.sub SBT)⟩
  clear hA hH hbF a w
  rintro a w ⟨hbF,hH,hA⟩
  repeat' (first|(first|(refine GT ?_ ?_<;>intro hg<;>clear hA a<;>intro a hA<;>(first|exact FA|replace hg:=dTr hg|replace hg:=dFa hg|skip))|(refine QT ?_;clear hA a;intro a hA)|(first|(refine BT ?_;clear hA hH;rintro _ w ⟨bN,rfl,hH⟩ a hA)|(refine LT ?_;clear hA hH;rintro _ w ⟨oN,rfl,hH⟩ a hA)|(refine AT ?_;clear hA;rintro _ w ⟨oN,cN,rfl,hH2⟩ a hA;clear hH;have hH:=(hH2 _ (by (repeat constructor))).tail;clear hH2)|(refine S0T ?_;clear hH;rintro _ w hH)))|refine CT ?_|(refine DT ?_ ?_<;>intro hc<;>try (exfalso;omega))|(first|(refine DSK ?_;clear hA a;intro a hA)|(first|(refine DLT ?_;clear hA hH;rintro _ w ⟨oN,rfl,hH⟩;refine ⟨STT,?_⟩;intro a hA)|(refine DAT ?_;clear hA;rintro _ w ⟨oN,cN,rfl,hH2⟩;clear hH;have hH:=(hH2 _ (by (repeat constructor))).tail;clear hH2;refine ⟨STT,?_⟩;intro a hA))))
  (refine st_op hA rfl rfl (by decide) (op_call rfl rfl rfl (containsFN_spec w0 _ (cb b5 3 [.int .i64 d]::cb b4 70 (encN (.mk k x xs n ns r va ko kc kids))::cb b3 124 [.pointer (some (bat bK 0))]::H) ⟨oP,nP,cP,g,oA,nA,cA,caps,some bE,some bW,some bJ,some bO⟩ la bK bE bW bJ bO b3 b5 ⟨ko,kc,kids⟩ d s1 h6.1 hb h6l (.tail _ (.tail _ (.tail _ hm))) (by exact MEMT) (by exact MEMT) hs1 hd hdd hH)) ?_;clear hA hH)
  rintro _ w (⟨s',he,rfl,hH⟩| ⟨he,rfl,s',hH⟩) a hA
  · repeat' (first|(first|(refine GT ?_ ?_<;>intro hg<;>clear hA a<;>intro a hA<;>(first|exact FA|replace hg:=dTr hg|replace hg:=dFa hg|skip))|(refine QT ?_;clear hA a;intro a hA)|(first|(refine BT ?_;clear hA hH;rintro _ w ⟨bN,rfl,hH⟩ a hA)|(refine LT ?_;clear hA hH;rintro _ w ⟨oN,rfl,hH⟩ a hA)|(refine AT ?_;clear hA;rintro _ w ⟨oN,cN,rfl,hH2⟩ a hA;clear hH;have hH:=(hH2 _ (by (repeat constructor))).tail;clear hH2)|(refine S0T ?_;clear hH;rintro _ w hH)))|refine CT ?_|(refine DT ?_ ?_<;>intro hc<;>try (exfalso;omega))|(first|(refine DSK ?_;clear hA a;intro a hA)|(first|(refine DLT ?_;clear hA hH;rintro _ w ⟨oN,rfl,hH⟩;refine ⟨STT,?_⟩;intro a hA)|(refine DAT ?_;clear hA;rintro _ w ⟨oN,cN,rfl,hH2⟩;clear hH;have hH:=(hH2 _ (by (repeat constructor))).tail;clear hH2;refine ⟨STT,?_⟩;intro a hA))))
    exact rt1 (.inl rfl) rfl hA rfl (.inl ⟨s',hbF.trans he,rfl,hH.rm 5 |>.rm 5 |>.rm 5⟩)
  · repeat' (first|(first|(refine GT ?_ ?_<;>intro hg<;>clear hA a<;>intro a hA<;>(first|exact FA|replace hg:=dTr hg|replace hg:=dFa hg|skip))|(refine QT ?_;clear hA a;intro a hA)|(first|(refine BT ?_;clear hA hH;rintro _ w ⟨bN,rfl,hH⟩ a hA)|(refine LT ?_;clear hA hH;rintro _ w ⟨oN,rfl,hH⟩ a hA)|(refine AT ?_;clear hA;rintro _ w ⟨oN,cN,rfl,hH2⟩ a hA;clear hH;have hH:=(hH2 _ (by (repeat constructor))).tail;clear hH2)|(refine S0T ?_;clear hH;rintro _ w hH)))|refine CT ?_|(refine DT ?_ ?_<;>intro hc<;>try (exfalso;omega))|(first|(refine DSK ?_;clear hA a;intro a hA)|(first|(refine DLT ?_;clear hA hH;rintro _ w ⟨oN,rfl,hH⟩;refine ⟨STT,?_⟩;intro a hA)|(refine DAT ?_;clear hA;rintro _ w ⟨oN,cN,rfl,hH2⟩;clear hH;have hH:=(hH2 _ (by (repeat constructor))).tail;clear hH2;refine ⟨STT,?_⟩;intro a hA))))
    exact rt1 (.inl rfl) rfl hA rfl (.inr ⟨hbF.trans he,rfl,s',hH.rm 5 |>.rm 5 |>.rm 5⟩)
theorem bodyC_all (w0:World) (c:Kk) (la:List Int) (bK bE bW bJ bO:Nat) (he:c.e=some bE) (hc:c.n=some bW) (hj:c.j=some bJ) (ho:c.o=some bO) (hn:c.nA=la.length) (hla:la.length≤9223372036854775807) {b:AN} (hR:RdN w0 b):BodyC w0 c la bK bE bW bJ bO b:=by
  induction hR with
  |mk h1 h2 h3 h4 h5 h6 h7 ih=>exact bodyN_spec w0 c la bK bE bW bJ bO he hc hj ho _ _ _ _ _ _ _ _ _ _ (.mk h1 h2 h3 h4 h5 h6 h7) ih hn hla
end
end Go.Proofs.YtenlcdokaadobaaGreatDoor
namespace Go.Fw
open Go Go.RowKit
set_option linter.unusedVariables false
section
variable {P:Program} {N:Nat} {l:List (Nat × Value)} {C:World→Prop} {d:Option Tmp} {T:TypeId} {pos:String} {af:Array Edge} {g:Option (Nat × Bool)}
theorem op_insertK {t kt e b:Nat} {kk:IntKind} {x y z:Operand} {ks:List Int} {k:Int} {w0 w:World} {M:Nat→Prop} {H H':List It} [ht:TMp P t kt e] [hk:TIn P kt kk]
    (hx:ev l x=some (.map (some b))) (hy:ev l y=some (.int .i64 k)) (hz:ev l z=some (.bool true)) (hH:HS w0 M H w) (hr:Rp H (sk b ks) (sk b (sadd ks k)) H') :
    Op1 P N l ⟨d,.insert t x y z,T,pos,af,g⟩ w (fun _ w'=>HS w0 M H' w'):=by
  intro a hA K Q hK
  have h:=op_addK (P:=P) (N:=N) (d:=d) (T:=T) (pos:=pos) (af:=af) (g:=g) (t:=t) hx hy hz hH hr a hA K Q hK
  exact h
inductive SzL (P:Program):List (Nat × Nat)→List (Nat × Nat)→Prop
  |nil:SzL P [] []
  |cons {t o s:Nat} {fl szs:List (Nat × Nat)} (h:∃i,P.info? t=some i∧i.size=s) (k:SzL P fl szs):SzL P ((t,o)::fl) ((o,s)::szs)
theorem run_szl {fl szs:List (Nat × Nat)} (h:SzL P fl szs) (w:World):(fl.mapM (fun p=>do pure (p.2,←sizeOf p.1)):Sem (List (Nat × Nat))).run P w= .ok szs w:=by
  induction h with
  |nil=>simp
  | @cons t o s fl szs h k ih=>
    obtain ⟨i,h1,h2⟩:=h
    rw [List.mapM_cons]
    have e1:(sizeOf t:Sem Nat).run P w= .ok s w:=by
      simp [sizeOf,typeInfo,h1,h2]
    simp only [Sem.run_bind,e1,Result.andThen_ok,Sem.run_pure,ih]
end
end Go.Fw
namespace Go.Proofs.YtenlcdokaadobaaGreatDoor
open Go Go.Fw
set_option linter.unusedVariables false
def encF (o:Option Addr) (c:Int):List Value:=.int .i64 c::encB o
theorem encF_len (o:Option Addr) (c:Int):(encF o c).length=12:=rfl
theorem nb_no {b:Bool} {p:Prop} (h:b=true↔p) (hn:(!b)=true):¬p:=fun hp=>by rw [h.2 hp] at hn;cases hn
theorem nb_yes {b:Bool} {p:Prop} (h:b=true↔p) (hn:(!b)=false):p:=h.1 (by cases b with|true=>rfl|false=>cases hn)
theorem anf_no {cs:List Int} {g:Grs} (h:¬AnfP cs g):false=true↔AnfP cs g:=⟨fun e=>(by cases e),fun e=>absurd e h⟩
def four:List ByteArray:=[exnB,exnD,exnM,exnS]
theorem has4 {cs:List Int} {g:Grs} (h:AnfP cs g):∀s∈four,hasS g.xs.l s:=fun s hs=>by
  simp only [four,List.mem_cons,List.not_mem_nil,or_false] at hs
  obtain ⟨h1,h2,h3,h4⟩:=h.has
  rcases hs with rfl|rfl|rfl|rfl<;>assumption
theorem has4_of {l:List ByteArray} (h:∀k,k<four.length→hasS l (four.getD k default)):hasS l exnB∧hasS l exnD∧hasS l exnM∧hasS l exnS:=⟨h 0 (by decide),h 1 (by decide),h 2 (by decide),h 3 (by decide)⟩
theorem caps_next {l:List Int} {i:Nat} {x:Int} (hx:l[i]?=some x) (h:∀c∈l.take i,0≤c∧c≤4096) (ha:0≤x∧x≤4096):∀c∈l.take (i+1),0≤c∧c≤4096:=by
  rw [take_snoc hx]
  intro c hc
  rcases List.mem_append.1 hc with h1|h1
  · exact h c h1
  · rw [List.mem_singleton] at h1
    exact h1▸ha
theorem getD_mem {α:Type} {l:List α} {k:Nat} {d:α} (h:k<l.length):l.getD k d∈l:=by
  rw [List.getD_eq_getElem?_getD,List.getElem?_eq_getElem h]
  exact List.getElem_mem h
theorem own4 {w0 w:World} {H:List It} {T:Nat} {o:Option Addr} {a b c d:ByteArray} (h:HS w0 noM (own T 1 o 4 4 [.string a,.string b,.string c,.string d]::H) w):∃sl:List ByteArray,sl=[a,b,c,d]∧sl.length=4∧HS w0 noM (own T 1 o sl.length sl.length (flat encX sl)::H) w:=⟨[a,b,c,d],rfl,rfl,h⟩
def kk0 (o:Option Addr) (n c:Nat) (g:Grs):Kk:=⟨o,n,c,g,none,0,0,0,none,none,none,none⟩
theorem cap_at {o:Option Addr} {l:List Int} {k:Nat} (h:k<l.length):(flat (encF o) l)[k*12+0]?=some (.int .i64 (l.getD k 0)):=by
  refine flat_get (off:=0) (encF_len o) (List.getElem?_eq_getElem h) ?_
  rw [List.getD_eq_getElem?_getD,List.getElem?_eq_getElem h]
  rfl
theorem flatI_s (l:List Int) (x:Int):flat Fw.encI l++[.int .i64 x]=flat Fw.encI (l++[x]):=by rw [flat_snoc];rfl
theorem sub_bd (o:Option Addr) (c:Int) (i:Nat) (v:Value) (h:(encB o)[i]?=some v):(encF o c)[0+1+i]?=some v:=by rw [Nat.zero_add,Nat.add_comm];exact h
section
attribute [local irreducible] Code.wp wpList Calls Ex Op1 sat bat blk cb own Go.Fw.mp Go.Fw.mpO Go.Fw.mpI Go.Fw.mpE Go.Fw.itr HS Rd Ret wkD Hp Cl Cls Exit.then Exit.inBlock Exit.noGoto bodyPost Go.Fw.flat wk2 Go.Fw.all Go.Fw.owns wpOp
attribute [local irreducible] sk mpK sko mvO entK geS

theorem anfMay_spec (w0:World) (oF:Option Addr) (cF:Nat) (cs:List Int) (o:Option Addr) (g:Grs) (hF:Rd w0 oF (flat (encF o) cs)) (hr:Rd w0 o (encAt at0)) (hcl:cs.length≤100000) (hls:RdV w0 encX g.ls) (hts:RdV w0 encX g.ts) (hxs:RdV w0 encX g.xs) (hss:RdV w0 encX g.ss) :
    Ret Tryz.prog 18 #[.agg (encP oF cs.length cF g).toArray] w0 (fun v w=>∃b,v= .bool b∧(b=true↔AnfP cs g)∧Kp w0 noM w):=by
  have hH:HS w0 noM [] w0:=HS.init w0 noM
  have hspF:Sp oF cs.length:=hF.sp (sz:=12) (flat_length (encF_len o) _) (by omega)
  (refine ENT (N:=126) Tryz.func18 Tryz.ntmps18 ?_;intro a hA)
  repeat' (first|(refine GT ?_ ?_<;>intro hg<;>clear hA a<;>intro a hA<;>(first|exact FA|replace hg:=dTr hg|replace hg:=dFa hg|skip))|(refine XT ?_;apply XE;(first|(apply ex_load;rfl;refine cl_rd hF id (cap_at ?_);(show 0< _);omega));clear hA a;intro a hA)|(refine QT ?_;clear hA a;intro a hA)|(refine BT ?_;clear hA hH;rintro _ w ⟨bN,rfl,hH⟩ a hA)|(refine LT ?_;clear hA hH;rintro _ w ⟨oN,rfl,hH⟩ a hA)|(refine st_op hA rfl rfl (by decide) (op_call rfl rfl rfl (rising_spec _ g.ls (hls.keep hH.kp))) ?_;clear hA;rintro _ w ⟨b,rfl,hb1,hk⟩ a hA;replace hH:=hH.keep hk;clear hk)|(refine st_op hA rfl rfl (by decide) (op_call rfl rfl rfl (rising_spec _ g.ts (hts.keep hH.kp))) ?_;clear hA;rintro _ w ⟨b,rfl,hb2,hk⟩ a hA;replace hH:=hH.keep hk;clear hk)|(refine st_op hA rfl rfl (by decide) (op_call rfl rfl rfl (rising_spec _ g.xs (hxs.keep hH.kp))) ?_;clear hA;rintro _ w ⟨b,rfl,hb3,hk⟩ a hA;replace hH:=hH.keep hk;clear hk)|refine CT ?_|(refine DT ?_ ?_<;>intro hc<;>try (exfalso;omega))|fail)
  · exact rt1 (.inl rfl) rfl hA rfl ⟨_,rfl,anf_no (fun h=>(by have:=h.pos;omega)),hH.kp⟩
  · exact rt1 (.inl rfl) rfl hA rfl ⟨_,rfl,anf_no (fun h=>(by have:=h.top;omega)),hH.kp⟩
  · exact rt1 (.inl rfl) rfl hA rfl ⟨_,rfl,anf_no (fun h=>(by assumption:cs.getD (Int.toNat 0) 0≠0) h.c0),hH.kp⟩
  · exact rt1 (.inl rfl) rfl hA rfl ⟨_,rfl,anf_no (fun h=>nb_no hb1 (by assumption) h.ls),hH.kp⟩
  · exact rt1 (.inl rfl) rfl hA rfl ⟨_,rfl,anf_no (fun h=>nb_no hb2 (by assumption) h.ts),hH.kp⟩
  · exact rt1 (.inl rfl) rfl hA rfl ⟨_,rfl,anf_no (fun h=>nb_no hb3 (by assumption) h.xs),hH.kp⟩
  have hp1:=nb_yes hb1 (by assumption)
  have hp2:=nb_yes hb2 (by assumption)
  have hp3:=nb_yes hb3 (by assumption)
  have hc0:cs.getD 0 0=0:=Decidable.not_not.1 (by assumption:¬cs.getD (Int.toNat 0) 0≠0)
  clear hb1 hb2 hb3
  obtain ⟨b1,hb1⟩:∃x,x=bN:=⟨_,rfl⟩
  rw [←hb1] at hA hH
  clear hb1 bN
  have hcl2:1≤cs.length:=by omega
  have hcl4:cs.length≤4096:=by omega
  obtain ⟨sl,hsl0,hsl,hH1⟩:=own4 hH
  have hsl4:sl=four:=hsl0.trans rfl
  clear hsl0
  clear hH
  have hH:=hH1
  clear hH1
  have hA2:Sl 126 [(48,.int .i64 (0:Nat)),(47,.int .i64 sl.length),(46,.slice oN sl.length sl.length),(1,.pointer (some (bat b1 0)))] a:=by rw [hsl];exact (hA.sub SBT)
  clear hA
  have hspS:=hH.own_sp (T:=9) (o:=oN) (.head _)
  refine wp_lpk (S:=Nat) (fun i a w=>(i≤sl.length∧∀k,k<i→hasS g.xs.l (sl.getD k default))∧HS w0 noM [own 9 1 oN sl.length sl.length (flat encX sl),cb b1 34 (encP oF cs.length cF g)] w∧Sl 126 [(48,.int .i64 i),(47,.int .i64 sl.length),(46,.slice oN sl.length sl.length),(1,.pointer (some (bat b1 0)))] a) (fun i=>sl.length - i)
    (fun a w=>(∀k,k<sl.length→hasS g.xs.l (sl.getD k default))∧HS w0 noM [cb b1 34 (encP oF cs.length cF g)] w∧Sl 126 [(1,.pointer (some (bat b1 0)))] a) 0 ⟨⟨Nat.zero_le _,fun k h=>absurd h (Nat.not_lt_zero _)⟩,hH,hA2⟩ ?_ ?_
  · clear hA2 hH
    rintro i a w ⟨⟨hi,hhas⟩,hH,hA⟩
    by_cases hlt:i<sl.length
    rotate_left
    · obtain rfl:i=sl.length:=by omega
      repeat' (first|(refine QT ?_;clear hA a;intro a hA)|refine CT ?_|(refine DT ?_ ?_<;>intro hc<;>try (exfalso;omega))|fail)
      exact ⟨hhas,hH.tail,(hA.sub SBT)⟩
    have hv:=strs_at hlt
    repeat' (first|(refine XT ?_;apply XE;(first|(apply ex_indexAddr_nat;rfl;rfl;omega;exact hspS)|(apply ex_load;rfl;apply cl_own (T:=9);exact MEMT;exact hv));clear hA a;intro a hA)|(refine QT ?_;clear hA a;intro a hA)|refine CT ?_|(refine DT ?_ ?_<;>intro hc<;>try (exfalso;omega))|fail)
    (refine st_op hA rfl rfl (by decide) (op_call rfl rfl rfl (containsX_spec _ g.xs _ (hxs.keep hH.kp))) ?_;clear hA;rintro _ w ⟨rfl,hk⟩ a hA;replace hH:=hH.keep hk;clear hk)
    repeat' (first|(refine QT ?_;clear hA a;intro a hA)|refine CT ?_|(refine DT ?_ ?_<;>intro hc<;>try (exfalso;omega))|fail)
    all_goals first|exact ⟨i+1,⟨⟨hlt,lt_next (p:=fun k=>hasS g.xs.l (sl.getD k default)) hhas (by assumption)⟩,hH,(hA.sub SBT)⟩,by omega⟩|exact rt1 (.inl rfl) rfl hA rfl ⟨_,rfl,anf_no (fun h=>(by assumption:¬0≤idxF g.xs.l (sl.getD i default)) (has4 h _ (hsl4▸getD_mem hlt))),hH.kp⟩
  clear hA2 hH
  rintro a w ⟨hhas,hH,hA⟩
  rw [hsl4] at hhas
  have hx4:=has4_of hhas
  clear hhas hsl hsl4 hspS
  repeat' (first|(refine QT ?_;clear hA a;intro a hA)|refine CT ?_|fail)
  (refine st_op hA rfl rfl (by decide) (op_call rfl rfl rfl (containsFX_spec _ g.ss (hss.keep hH.kp))) ?_;clear hA;rintro _ w ⟨b,rfl,hbs,hk⟩ a hA;replace hH:=hH.keep hk;clear hk)
  repeat' (first|(refine XT ?_;apply XE;(first|(apply ex_build (szs:=[(0,5),(5,1),(6,1),(7,1),(8,1),(9,1),(10,1),(11,1)]) (cs:=(encKk (kk0 oF cs.length cF g) 0).toArray);exact run_szl (by (repeat (first|exact SzL.nil|refine SzL.cons ⟨_,rfl,by decide⟩ ?_)));rfl;rfl));clear hA a;intro a hA)|(refine QT ?_;clear hA a;intro a hA)|(refine BT ?_;clear hA hH;rintro _ w ⟨bN,rfl,hH⟩ a hA)|refine CT ?_|(refine DT ?_ ?_<;>intro hc<;>try (exfalso;omega))|fail)
  · exact rt1 (.inl rfl) rfl hA rfl ⟨_,rfl,anf_no (fun h=>hbs.1 (by assumption) h.ss),hH.kp⟩
  have hss4:∀s∈g.ss.l,s.size≤4096:=Classical.not_not.1 fun h=>absurd ((by assumption:b=false).symm.trans (hbs.2 h)) (by decide)
  clear hbs
  obtain ⟨bK,hbK⟩:∃x,x=bN:=⟨_,rfl⟩
  rw [←hbK] at hA hH
  clear hbK bN
  refine wp_lpk (S:=Nat) (fun i a w=>∃oA cA,i≤cs.length∧HS w0 noM [cb bK 127 (encKk ⟨oF,cs.length,cF,g,oA,i,cA,0,none,none,none,none⟩ 0),own 3 1 oA i cA (flat Fw.encI (cs.take i)),cb b1 34 (encP oF cs.length cF g)] w∧Sl 126 [(67,.int .i64 i),(66,.int .i64 cs.length),(65,.slice oF cs.length cF),(5,.pointer (some (bat bK 0))),(1,.pointer (some (bat b1 0)))] a) (fun i=>cs.length - i)
    (fun a w=>∃oA nA cA,HS w0 noM [cb bK 127 (encKk ⟨oF,cs.length,cF,g,oA,nA,cA,0,none,none,none,none⟩ 0),cb b1 34 (encP oF cs.length cF g)] w∧Sl 126 [(5,.pointer (some (bat bK 0))),(1,.pointer (some (bat b1 0)))] a) 0 ⟨none,0,Nat.zero_le _,(by rw [List.take_zero];exact (hH.nil_flat Fw.encI 3 1).perm PMT),(hA.sub SBT)⟩ ?_ ?_
  · clear hA hH
    rintro i a w ⟨oA,cA,hi,hH,hA⟩
    by_cases hlt:i<cs.length
    rotate_left
    · repeat' (first|(refine QT ?_;clear hA a;intro a hA)|refine CT ?_|(refine DT ?_ ?_<;>intro hc<;>try (exfalso;omega))|fail)
      exact ⟨oA,i,cA,hH.rm 1,(hA.sub SBT)⟩
    obtain ⟨x,hx⟩:∃x,cs[i]?=some x:=⟨_,List.getElem?_eq_getElem hlt⟩
    have hvx:=flat_all (encF_len o) hx
    repeat' (first|(refine XT ?_;apply XE;(first|(apply ex_load_st (vs:=encF o x);rfl;rfl;exact cls_rd hF id hvx)|(apply ex_indexAddr_nat;rfl;rfl;omega;exact hspF));clear hA a;intro a hA)|(refine QT ?_;clear hA a;intro a hA)|(refine BT ?_;clear hA hH;rintro _ w ⟨bN,rfl,hH⟩ a hA)|(refine SAT (encF o x) hA hH ?_;clear hH;intro w hH)|refine CT ?_|(refine DT ?_ ?_<;>intro hc<;>try (exfalso;omega))|fail)
    have hST:HS w0 noM [cb bN 72 (encF o x),cb bK 127 (encKk ⟨oF,cs.length,cF,g,oA,i,cA,0,none,none,none,none⟩ 0)] w:=HS.left (H1:=[_,_]) hH
    (refine wp_draw2_HS (H:=[_,_]) [(0,1),(1,1),(2,1),(3,1),(4,1),(5,1),(6,1),(7,0),(8,0),(9,1),(10,1)] [11] mixed (by decide +kernel) (hST) ?_;replace hH:=hH.drew)
    clear hST
    repeat' (first|(refine QT ?_;clear hA a;intro a hA)|(refine DLT ?_;clear hA hH;rintro _ w ⟨oN,rfl,hH⟩;refine ⟨STT,?_⟩;intro a hA)|fail)
    (apply dr_op hA rfl rfl rfl (by decide);apply op_sliceLit;rfl;rfl;exact CATST;rfl;rfl;rfl;exact hH;clear hA hH;rintro _ w ⟨oN,rfl,hH⟩;refine ⟨HS.left (H1:=[_,_]) hH.tail,?_⟩;intro a hA)
    dsimp only at hA
    (apply dr_op hA rfl rfl rfl (by decide);apply op_append;rfl;rfl;exact hH;exact MEMT;exact (hH.own_rd (List.Mem.head _));exact rfl;rfl;decide;exact rfl;(unfold maxLen;omega);omega;clear hA;rintro _ w ⟨oN,cN,rfl,hH2⟩;clear hH;have hH:=hH2 _ (by (repeat constructor));clear hH2;refine ⟨HS.left (H1:=[_,_]) hH.tail,?_⟩;intro a hA)
    rw [flatI_s,←take_snoc hx] at hH
    repeat' (first|(refine QT ?_;clear hA a;intro a hA)|refine CT ?_|fail)
    (apply dr_op03 hA rfl rfl rfl;apply op_store_fld (cs':=encKk ⟨oF,cs.length,cF,g,oN,i+1,cN,0,none,none,none,none⟩ 0);rfl;rfl;rfl;exact hH;(repeat constructor);clear hH;rintro _ w hH)
    repeat' (first|(refine QT ?_;clear hA a;intro a hA)|refine CT ?_|fail)
    exact ⟨i+1,⟨oN,cN,hlt,(((hH.rm 0).rm 0).perm PMT),(hA.sub SBT)⟩,by omega⟩
  clear hA hH
  rintro a w ⟨oA,nA,cA,hH,hA⟩
  repeat' (first|(refine QT ?_;clear hA a;intro a hA)|refine CT ?_|fail)
  refine wp_lpk (S:=Nat) (fun i a w=>∃c p,(i≤cs.length∧0≤p∧p≤2* (i:Int)∧∀c∈cs.take i,0≤c∧c≤4096)∧HS w0 noM [cb bK 127 (encKk c p),cb b1 34 (encP oF cs.length cF g)] w∧Sl 126 [(86,.int .i64 i),(85,.int .i64 cs.length),(84,.slice oF cs.length cF),(5,.pointer (some (bat bK 0)))] a) (fun i=>cs.length - i)
    (fun a w=>(∀c∈cs,0≤c∧c≤4096)∧HS w0 noM [] w∧Sl 126 [] a) 0 ⟨_,0,⟨Nat.zero_le _,Int.le_refl _,by omega,(by rw [List.take_zero];exact fun c h=>absurd h List.not_mem_nil)⟩,hH,(hA.sub SBT)⟩ ?_ ?_
  · clear hA hH
    rintro i a w ⟨c,p,⟨hi,hp0,hp1,hcap⟩,hH,hA⟩
    by_cases hlt:i<cs.length
    rotate_left
    · obtain rfl:i=cs.length:=by omega
      rw [List.take_length] at hcap
      repeat' (first|(refine QT ?_;clear hA a;intro a hA)|refine CT ?_|(refine DT ?_ ?_<;>intro hc<;>try (exfalso;omega))|fail)
      exact ⟨hcap,hH.tail.tail,(hA.sub SBT)⟩
    obtain ⟨x,hx⟩:∃x,cs[i]?=some x:=⟨_,List.getElem?_eq_getElem hlt⟩
    have hvx:=flat_all (encF_len o) hx
    repeat' (first|(refine GT ?_ ?_<;>intro hg<;>clear hA a<;>intro a hA<;>(first|exact FA|replace hg:=dTr hg|replace hg:=dFa hg|skip))|(refine XT ?_;apply XE;(first|(apply ex_load_st (vs:=encF o x);rfl;rfl;exact cls_rd hF id hvx)|(apply ex_indexAddr_nat;rfl;rfl;omega;exact hspF));clear hA a;intro a hA)|(refine QT ?_;clear hA a;intro a hA)|(refine BT ?_;clear hA hH;rintro _ w ⟨bN,rfl,hH⟩ a hA)|(refine SAT (encF o x) hA hH ?_;clear hH;intro w hH)|(apply st_op0 hA rfl rfl;apply op_store_fld (cs':=encKk {c with caps:=x} p);rfl;rfl;rfl;exact hH;(repeat constructor);clear hH;rintro _ w hH)|refine CT ?_|(refine DT ?_ ?_<;>intro hc<;>try (exfalso;omega))|fail)
    · exact rt1 (.inl rfl) rfl hA rfl ⟨_,rfl,anf_no (fun h=>(by have:=h.caps x (List.mem_of_getElem? hx);omega)),hH.kp⟩
    · exact rt1 (.inl rfl) rfl hA rfl ⟨_,rfl,anf_no (fun h=>(by have:=h.caps x (List.mem_of_getElem? hx);omega)),hH.kp⟩
    have hxx:0≤x∧x≤4096:=by omega
    (refine st_op hA rfl rfl (by decide) (op_makeMapK hH) ?_;clear hA hH;rintro _ w ⟨m1,rfl,hH⟩ a hA)
    (refine st_op hA rfl rfl (by decide) (op_makeMapK hH) ?_;clear hA hH;rintro _ w ⟨m2,rfl,hH⟩ a hA)
    repeat' (first|(refine QT ?_;clear hA a;intro a hA)|(apply st_op0 hA rfl rfl;apply op_insertK;rfl;rfl;rfl;exact hH;(repeat constructor);clear hH;rintro _ w hH)|fail)
    (refine st_op hA rfl rfl (by decide) (op_makeMapI hH) ?_;clear hA hH;rintro _ w ⟨m3,rfl,hH⟩ a hA)
    (refine st_op hA rfl rfl (by decide) (op_makeMapK hH) ?_;clear hA hH;rintro _ w ⟨m4,rfl,hH⟩ a hA)
    obtain ⟨ca,hca⟩:∃y:Kk,y={c with caps:=x}:=⟨_,rfl⟩
    have hH5:=hH.rm 0 |>.rm 0 |>.rm 0 |>.rm 0
    clear hH
    dsimp only [List.eraseIdx_cons_succ,List.eraseIdx_cons_zero] at hH5
    have hH:=hH5
    clear hH5
    rw [←hca] at hH
    obtain ⟨oP,nP,cP,g',oA',nA',cA',caps',e',n',j',o'⟩:=ca
    repeat' (first|(refine QT ?_;clear hA a;intro a hA)|(apply st_op0 hA rfl rfl;apply op_store_fld (cs':=encKk ⟨oP,nP,cP,g',oA',nA',cA',caps',some m1,n',j',o'⟩ p);rfl;rfl;rfl;exact hH;(repeat constructor);clear hH;rintro _ w hH)|(apply st_op0 hA rfl rfl;apply op_store_fld (cs':=encKk ⟨oP,nP,cP,g',oA',nA',cA',caps',some m1,some m2,j',o'⟩ p);rfl;rfl;rfl;exact hH;(repeat constructor);clear hH;rintro _ w hH)|(apply st_op0 hA rfl rfl;apply op_store_fld (cs':=encKk ⟨oP,nP,cP,g',oA',nA',cA',caps',some m1,some m2,some m3,o'⟩ p);rfl;rfl;rfl;exact hH;(repeat constructor);clear hH;rintro _ w hH)|(apply st_op0 hA rfl rfl;apply op_store_fld (cs':=encKk ⟨oP,nP,cP,g',oA',nA',cA',caps',some m1,some m2,some m3,some m4⟩ p);rfl;rfl;rfl;exact hH;(repeat constructor);clear hH;rintro _ w hH)|refine CT ?_|fail)
    repeat' (first|(refine XT ?_;apply XE;(first|(apply ex_load_st (vs:=encB o);rfl;rfl;exact cls_cb MEMT (sub_bd o x)));clear hA a;intro a hA)|(refine QT ?_;clear hA a;intro a hA)|fail)
    (refine st_op hA rfl rfl (by decide) (op_call rfl rfl rfl (body_spec w0 _ _ _ bK p o (hH.up 1 rfl) hr hp0 (by omega))) ?_;clear hA hH)
    rintro _ w ⟨rfl,hH⟩ a hA
    repeat' (first|(refine QT ?_;clear hA a;intro a hA)|refine CT ?_|fail)
    exact ⟨i+1,⟨_,p+2,⟨hlt,by omega,by omega,caps_next hx hcap hxx⟩,hH.rm 1,(hA.sub SBT)⟩,by omega⟩
  clear hA hH
  rintro a w ⟨hcap,hH,hA⟩
  repeat' (first|(refine QT ?_;clear hA a;intro a hA)|refine CT ?_|fail)
  exact rt1 (.inl rfl) rfl hA rfl ⟨_,rfl,iff_of_true rfl ⟨hcl2,hcl4,hc0,hp1,hp2,hp3,hx4,hss4,hcap⟩,hH.kp⟩
end
end Go.Proofs.YtenlcdokaadobaaGreatDoor
