/-
  anf.May's check of a row of bodies, given what it is of each. Conditions: none.
  anf.May's check of a join, given what it is of its parts. Conditions: none.
-/
import Derived.Test.YtenlcdokaadobaaGreatDoorRowMakesMg3
set_option maxHeartbeats 64000000
set_option maxRecDepth 10000
namespace Go.Proofs.YtenlcdokaadobaaGreatDoor
open Go Go.Fw
set_option linter.unusedVariables false
structure CsOk (s:CS):Prop where
  p0:0≤s.p
  p1:s.p≤65536
  now:NowOk s.ever s.now
theorem foldl_sdel {l ks:List Int} {x:Int}:x∈l.foldl sdel ks→x∈ks:=by
  induction l generalizing ks with
  |nil=>exact id
  | cons y l ih=>
    intro h
    rw [List.foldl_cons] at h
    exact (mem_sdel.1 (ih h)).1
theorem CsOk.unb {l:List Int} {s:CS} (h:CsOk s):CsOk (unbF l s):=⟨h.p0,h.p1,fun x hx=>h.now x (foldl_sdel hx)⟩
theorem CsOk.op {n:Int} {s:CS} (h:CsOk s):CsOk (opF n s):=⟨h.p0,h.p1,h.now⟩
theorem CsOk.sh {n:Int} {s:CS} (h:CsOk s):CsOk (shF n s):=⟨h.p0,h.p1,h.now⟩
section
variable {g:Grs} {la:List Int} {mine:Int}
theorem bindF_ok {l:List Int} {s s':CS} (h:CsOk s) (e:bindF l s=some s'):CsOk s':=by
  unfold bindF at e
  obtain ⟨q,hq,rfl⟩:=Option.map_eq_some_iff.1 e
  exact ⟨h.p0,h.p1,bindL_ok h.now hq⟩
theorem atsF_ok {l:List Atm} {s s':CS} (h:CsOk s) (e:atsF g l s=some s'):CsOk s':=by
  unfold atsF at e
  split at e
  · next ha=>
    cases e
    refine ⟨?_,?_,h.now⟩
    · have:=h.p0
      show 0≤s.p+l.length
      omega
    · show s.p+l.length≤65536
      rcases ha.2 with rfl|h2
      · have:=h.p1
        simpa using this
      · exact h2
  · cases e
theorem stepF_ok {r:Stp} {s s':CS} (h:CsOk s) (e:stepF g la mine r s=some s'):CsOk s':=by
  unfold stepF at e
  split at e
  · exact atsF_ok h e
  · cases e
theorem newJ_ok {xs:List Int} {n:Int} {s s':CS} (h:CsOk s) (e:newJ xs n s=some s'):CsOk s':=by
  unfold newJ at e
  split at e
  · cases e
  · exact bindF_ok (s:={s with js:=setI s.js n xs.length}) ⟨h.p0,h.p1,h.now⟩ e
theorem preF_ok {b:AN} {d:Int} {s s':CS} (h:CsOk s) (e:preF g b d s=some s'):CsOk s':=by
  unfold preF at e
  split at e
  · next hc=>exact atsF_ok (s:={s with p:=s.p+1}) ⟨by have:=h.p0;show 0≤s.p+1;omega,hc.2.1,h.now⟩ e
  · cases e
mutual
theorem bodyF_ok:∀(b:AN) (d:Int) (s s':CS),CsOk s→bodyF g la mine b d s=some s'→CsOk s'
  | .mk k x xs n ns r a ko kc kids,d,s,s',h,e=>by
    rw [bodyF] at e
    obtain ⟨s1,h1,e⟩:=Option.bind_eq_some_iff.1 e
    have k1:=preF_ok h h1
    split at e
    · obtain ⟨s2,h2,e⟩:=Option.bind_eq_some_iff.1 e
      obtain ⟨s3,h3,e3⟩:=Option.bind_eq_some_iff.1 h2
      obtain ⟨s4,h4,rfl⟩:=Option.map_eq_some_iff.1 e
      exact (firstF_ok kids _ _ _ (bindF_ok (stepF_ok k1 h3) e3) h4).unb
    · split at e
      · obtain ⟨s2,h2,e⟩:=Option.bind_eq_some_iff.1 e
        exact joinF_ok kids _ _ _ _ _ (newJ_ok k1 h2) e
      · split at e
        · split at e
          · cases e;exact k1
          · cases e
        · split at e
          · split at e
            · exact kidsF_ok kids _ _ _ k1 e
            · cases e
          · exact kidsF_ok kids _ _ _ k1 e
theorem firstF_ok:∀(l:List AN) (d:Int) (s s':CS),CsOk s→firstF g la mine l d s=some s'→CsOk s'
  | [],d,s,s',h,e=>by rw [firstF] at e;cases e
  |b::l,d,s,s',h,e=>by rw [firstF] at e;exact bodyF_ok b d s s' h e
theorem joinF_ok:∀(l:List AN) (xs:List Int) (n d:Int) (s s':CS),CsOk s→joinF g la mine l xs n d s=some s'→CsOk s'
  | [],xs,n,d,s,s',h,e=>by rw [joinF] at e;cases e
  | b::l,xs,n,d,s,s',h,e=>by
    rw [joinF] at e
    obtain ⟨s2,h2,e⟩:=Option.bind_eq_some_iff.1 e
    obtain ⟨s3,h3,rfl⟩:=Option.map_eq_some_iff.1 e
    exact (firstF_ok l _ _ _ (bodyF_ok b _ _ _ h h2).unb.op h3).sh
theorem kidsF_ok:∀(l:List AN) (d:Int) (s s':CS),CsOk s→kidsF g la mine l d s=some s'→CsOk s'
  | [],d,s,s',h,e=>by rw [kidsF] at e;cases e;exact h
  | b::l,d,s,s',h,e=>by
    rw [kidsF] at e
    obtain ⟨s2,h2,e⟩:=Option.bind_eq_some_iff.1 e
    exact kidsF_ok l _ _ _ (bodyF_ok b _ _ _ h h2) e
end
theorem kidsF_at {l:List AN} {i:Nat} {b:AN} (h:l[i]?=some b) (d:Int) (s:CS):kidsF g la mine (l.drop i) d s=(bodyF g la mine b d s).bind fun s=>kidsF g la mine (l.drop (i+1)) d s:=by
  obtain ⟨hi,rfl⟩:=List.getElem?_eq_some_iff.1 h
  rw [List.drop_eq_getElem_cons hi,kidsF]
end
def lamV (b3 b5:Nat):Value:=.func (.func 85) #[] #[.pointer (some (bat b3 0)),.pointer (some (bat b5 0))]
def BodyQ (w0:World) (c:Kk) (la:List Int) (bK bE bW bJ bO:Nat) (H:List It) (f:Option CS) (r:Value) (w':World):Prop:=
  (∃s':CS,f=some s'∧r= .bool true∧HS w0 noM (cb bK 127 (encKk c (s').p)::sk bE (s').ever::sk bW (s').now::mpI bJ (s').js::sk bO (s').op::H) w')∨(f=none∧r= .bool false∧∃s':CS,HS w0 noM (cb bK 127 (encKk c (s').p)::sk bE (s').ever::sk bW (s').now::mpI bJ (s').js::sk bO (s').op::H) w')
def BodyC (w0:World) (c:Kk) (la:List Int) (bK bE bW bJ bO:Nat) (b:AN):Prop:=∀(H:List It) (w:World) (d:Int) (s:CS),own 3 1 c.oA c.nA c.cA (flat Fw.encI la)∈H→CsOk s→1≤d→d≤32769→HS w0 noM (cb bK 127 (encKk c (s).p)::sk bE (s).ever::sk bW (s).now::mpI bJ (s).js::sk bO (s).op::H) w→
  Ret Tryz.prog 45 #[.pointer (some (bat bK 0)),.agg (encN b).toArray,.int .i64 d] w (BodyQ w0 c la bK bE bW bJ bO H (bodyF c.g la c.caps b d s))
section
attribute [local irreducible] Code.wp wpList Calls Ex Op1 sat bat blk cb own Go.Fw.mp Go.Fw.mpO Go.Fw.mpI Go.Fw.mpE Go.Fw.itr HS Rd Ret wkD Hp Cl Cls Exit.then Exit.inBlock Exit.noGoto bodyPost Go.Fw.flat wk2 Go.Fw.all Go.Fw.owns wpOp
attribute [local irreducible] sk mpK sko mvO entK

theorem lam_spec (w0 w:World) (H:List It) (c:Kk) (la:List Int) (bK bE bW bJ bO b3 b5:Nat) (b:AN) (d:Int) (s:CS) (hb:BodyC w0 c la bK bE bW bJ bO b) (hm:own 3 1 c.oA c.nA c.cA (flat Fw.encI la)∈H)
    (h3:cb b3 124 [.pointer (some (bat bK 0))]∈H) (h5:cb b5 3 [.int .i64 d]∈H) (hs:CsOk s) (hd:1≤d) (hd2:d≤32768) (hH:HS w0 noM (cb bK 127 (encKk c (s).p)::sk bE (s).ever::sk bW (s).now::mpI bJ (s).js::sk bO (s).op::H) w) :
    Ret Tryz.prog 85 #[.agg (encN b).toArray,.pointer (some (bat b3 0)),.pointer (some (bat b5 0))] w (fun r w'=>
      (∃s':CS,bodyF c.g la c.caps b (d+1) s=some s'∧r= .bool false∧HS w0 noM (cb bK 127 (encKk c (s').p)::sk bE (s').ever::sk bW (s').now::mpI bJ (s').js::sk bO (s').op::H) w')∨(bodyF c.g la c.caps b (d+1) s=none∧r= .bool true∧∃s':CS,HS w0 noM (cb bK 127 (encKk c (s').p)::sk bE (s').ever::sk bW (s').now::mpI bJ (s').js::sk bO (s').op::H) w')):=by
  obtain ⟨k,x,xs,n,ns,r,va,ko,kc,kids⟩:=b
  (refine ENT (N:=11) Tryz.func85 Tryz.ntmps85 ?_;intro a hA)
  repeat' (first|(first|(refine GT ?_ ?_<;>intro hg<;>clear hA a<;>intro a hA<;>(first|exact FA|replace hg:=dTr hg|replace hg:=dFa hg|skip))|(refine XT ?_;apply XE;(first|(apply ex_load;rfl;exact cl_cb (.tail _ (.tail _ (.tail _ (.tail _ (.tail _ (.tail _ h3)))))) rfl)|(apply ex_load;rfl;exact cl_cb (.tail _ (.tail _ (.tail _ (.tail _ (.tail _ (.tail _ h5)))))) rfl));clear hA a;intro a hA)|(refine QT ?_;clear hA a;intro a hA)|(first|(refine BT ?_;clear hA hH;rintro _ w ⟨bN,rfl,hH⟩ a hA)|(refine LT ?_;clear hA hH;rintro _ w ⟨oN,rfl,hH⟩ a hA)|(refine AT ?_;clear hA;rintro _ w ⟨oN,cN,rfl,hH2⟩ a hA;clear hH;have hH:=(hH2 _ (by (repeat constructor))).tail;clear hH2)|(refine S0T ?_;clear hH;rintro _ w hH)))|refine CT ?_|(refine DT ?_ ?_<;>intro hc<;>try (exfalso;omega))|(first|(refine DSK ?_;clear hA a;intro a hA)|(first|(refine DLT ?_;clear hA hH;rintro _ w ⟨oN,rfl,hH⟩;refine ⟨STT,?_⟩;intro a hA)|(refine DAT ?_;clear hA;rintro _ w ⟨oN,cN,rfl,hH2⟩;clear hH;have hH:=(hH2 _ (by (repeat constructor))).tail;clear hH2;refine ⟨STT,?_⟩;intro a hA))))
  (refine st_op hA rfl rfl (by decide) (op_call rfl rfl rfl (hb (cb bN 70 (encN (.mk k x xs n ns r va ko kc kids))::H) _ (d+1) s (.tail _ hm) hs (by omega) (by omega) (hH.perm PMT))) ?_;clear hA hH)
  rintro _ w (⟨s',he,rfl,hH⟩| ⟨he,rfl,s',hH⟩) a hA
  · repeat' (first|(first|(refine GT ?_ ?_<;>intro hg<;>clear hA a<;>intro a hA<;>(first|exact FA|replace hg:=dTr hg|replace hg:=dFa hg|skip))|(refine QT ?_;clear hA a;intro a hA)|(first|(refine BT ?_;clear hA hH;rintro _ w ⟨bN,rfl,hH⟩ a hA)|(refine LT ?_;clear hA hH;rintro _ w ⟨oN,rfl,hH⟩ a hA)|(refine AT ?_;clear hA;rintro _ w ⟨oN,cN,rfl,hH2⟩ a hA;clear hH;have hH:=(hH2 _ (by (repeat constructor))).tail;clear hH2)|(refine S0T ?_;clear hH;rintro _ w hH)))|refine CT ?_|(refine DT ?_ ?_<;>intro hc<;>try (exfalso;omega))|(first|(refine DSK ?_;clear hA a;intro a hA)|(first|(refine DLT ?_;clear hA hH;rintro _ w ⟨oN,rfl,hH⟩;refine ⟨STT,?_⟩;intro a hA)|(refine DAT ?_;clear hA;rintro _ w ⟨oN,cN,rfl,hH2⟩;clear hH;have hH:=(hH2 _ (by (repeat constructor))).tail;clear hH2;refine ⟨STT,?_⟩;intro a hA))))
    exact rt1 (.inl rfl) rfl hA rfl (.inl ⟨s',he,rfl,hH.rm 5⟩)
  · repeat' (first|(first|(refine GT ?_ ?_<;>intro hg<;>clear hA a<;>intro a hA<;>(first|exact FA|replace hg:=dTr hg|replace hg:=dFa hg|skip))|(refine QT ?_;clear hA a;intro a hA)|(first|(refine BT ?_;clear hA hH;rintro _ w ⟨bN,rfl,hH⟩ a hA)|(refine LT ?_;clear hA hH;rintro _ w ⟨oN,rfl,hH⟩ a hA)|(refine AT ?_;clear hA;rintro _ w ⟨oN,cN,rfl,hH2⟩ a hA;clear hH;have hH:=(hH2 _ (by (repeat constructor))).tail;clear hH2)|(refine S0T ?_;clear hH;rintro _ w hH)))|refine CT ?_|(refine DT ?_ ?_<;>intro hc<;>try (exfalso;omega))|(first|(refine DSK ?_;clear hA a;intro a hA)|(first|(refine DLT ?_;clear hA hH;rintro _ w ⟨oN,rfl,hH⟩;refine ⟨STT,?_⟩;intro a hA)|(refine DAT ?_;clear hA;rintro _ w ⟨oN,cN,rfl,hH2⟩;clear hH;have hH:=(hH2 _ (by (repeat constructor))).tail;clear hH2;refine ⟨STT,?_⟩;intro a hA))))
    exact rt1 (.inl rfl) rfl hA rfl (.inr ⟨he,rfl,s',hH.rm 5⟩)
theorem indexFN_spec (w0 w:World) (H:List It) (c:Kk) (la:List Int) (bK bE bW bJ bO b3 b5:Nat) (v:Vec AN) (d:Int) (s:CS) (hR:RdV w0 encN v) (hb:∀b∈v.l,BodyC w0 c la bK bE bW bJ bO b) (hl:v.l.length≤17592186044416) (hm:own 3 1 c.oA c.nA c.cA (flat Fw.encI la)∈H)
    (h3:cb b3 124 [.pointer (some (bat bK 0))]∈H) (h5:cb b5 3 [.int .i64 d]∈H) (hs:CsOk s) (hd:1≤d) (hd2:d≤32768) (hH:HS w0 noM (cb bK 127 (encKk c (s).p)::sk bE (s).ever::sk bW (s).now::mpI bJ (s).js::sk bO (s).op::H) w) :
    Ret Tryz.prog 113 #[.slice v.o v.l.length v.c,lamV b3 b5] w (fun r w'=>
      (∃s':CS,kidsF c.g la c.caps v.l (d+1) s=some s'∧r= .int .i64 (-1)∧HS w0 noM (cb bK 127 (encKk c (s').p)::sk bE (s').ever::sk bW (s').now::mpI bJ (s').js::sk bO (s').op::H) w')∨(kidsF c.g la c.caps v.l (d+1) s=none∧∃n:Nat,r= .int .i64 n∧∃s':CS,HS w0 noM (cb bK 127 (encKk c (s').p)::sk bE (s').ever::sk bW (s').now::mpI bJ (s').js::sk bO (s').op::H) w')):=by
  have hle:=hR.le
  have hsp:Sp v.o v.l.length:=hR.1.sp (sz:=11) (flat_length encN_len _) (by omega)
  (refine ENT (N:=19) Tryz.func113 Tryz.ntmps113 ?_;intro a hA)
  repeat' (first|(first|(refine GT ?_ ?_<;>intro hg<;>clear hA a<;>intro a hA<;>(first|exact FA|replace hg:=dTr hg|replace hg:=dFa hg|skip))|(refine QT ?_;clear hA a;intro a hA)|(first|(refine BT ?_;clear hA hH;rintro _ w ⟨bN,rfl,hH⟩ a hA)|(refine LT ?_;clear hA hH;rintro _ w ⟨oN,rfl,hH⟩ a hA)|(refine AT ?_;clear hA;rintro _ w ⟨oN,cN,rfl,hH2⟩ a hA;clear hH;have hH:=(hH2 _ (by (repeat constructor))).tail;clear hH2)|(refine S0T ?_;clear hH;rintro _ w hH)))|refine CT ?_|(refine DT ?_ ?_<;>intro hc<;>try (exfalso;omega))|(first|(refine DSK ?_;clear hA a;intro a hA)|(first|(refine DLT ?_;clear hA hH;rintro _ w ⟨oN,rfl,hH⟩;refine ⟨STT,?_⟩;intro a hA)|(refine DAT ?_;clear hA;rintro _ w ⟨oN,cN,rfl,hH2⟩;clear hH;have hH:=(hH2 _ (by (repeat constructor))).tail;clear hH2;refine ⟨STT,?_⟩;intro a hA))))
  refine wp_lpk (S:=Nat × CS) (fun t a w=>(t.1≤v.l.length∧CsOk t.2∧kidsF c.g la c.caps v.l (d+1) s=kidsF c.g la c.caps (v.l.drop t.1) (d+1) t.2)∧HS w0 noM (cb bK 127 (encKk c (t.2).p)::sk bE (t.2).ever::sk bW (t.2).now::mpI bJ (t.2).js::sk bO (t.2).op::H) w∧Sl 19 [(8,.int .i64 t.1),(7,.int .i64 v.l.length),(1,lamV b3 b5),(0,.slice v.o v.l.length v.c)] a) (fun t=>v.l.length - t.1)
    (fun a w=>∃s':CS,kidsF c.g la c.caps v.l (d+1) s=some s'∧HS w0 noM (cb bK 127 (encKk c (s').p)::sk bE (s').ever::sk bW (s').now::mpI bJ (s').js::sk bO (s').op::H) w∧Sl 19 [] a) (0,s) ⟨⟨Nat.zero_le _,hs,rfl⟩,hH,(hA.sub SBT)⟩ ?_ ?_
  · clear hA hH hs
    rintro ⟨i,t⟩ a w ⟨⟨hi,hs,heq⟩,hH,hA⟩
    dsimp only at hi hs heq hH hA ⊢
    by_cases hlt:i<v.l.length
    rotate_left
    · obtain rfl:i=v.l.length:=by omega
      rw [List.drop_length,kidsF] at heq
      repeat' (first|(first|(refine GT ?_ ?_<;>intro hg<;>clear hA a<;>intro a hA<;>(first|exact FA|replace hg:=dTr hg|replace hg:=dFa hg|skip))|(refine QT ?_;clear hA a;intro a hA)|(first|(refine BT ?_;clear hA hH;rintro _ w ⟨bN,rfl,hH⟩ a hA)|(refine LT ?_;clear hA hH;rintro _ w ⟨oN,rfl,hH⟩ a hA)|(refine AT ?_;clear hA;rintro _ w ⟨oN,cN,rfl,hH2⟩ a hA;clear hH;have hH:=(hH2 _ (by (repeat constructor))).tail;clear hH2)|(refine S0T ?_;clear hH;rintro _ w hH)))|refine CT ?_|(refine DT ?_ ?_<;>intro hc<;>try (exfalso;omega))|(first|(refine DSK ?_;clear hA a;intro a hA)|(first|(refine DLT ?_;clear hA hH;rintro _ w ⟨oN,rfl,hH⟩;refine ⟨STT,?_⟩;intro a hA)|(refine DAT ?_;clear hA;rintro _ w ⟨oN,cN,rfl,hH2⟩;clear hH;have hH:=(hH2 _ (by (repeat constructor))).tail;clear hH2;refine ⟨STT,?_⟩;intro a hA))))
      exact ⟨_,heq,hH,(hA.sub SBT)⟩
    obtain ⟨x,hx⟩:∃x,v.l[i]?=some x:=⟨_,List.getElem?_eq_getElem hlt⟩
    have hvs:=flat_all encN_len hx
    have hbx:=hb x (List.mem_of_getElem? hx)
    rw [kidsF_at hx] at heq
    obtain ⟨k,x1,xs,n,ns,r,va,ko,kc,kids⟩:=x
    repeat' (first|(first|(refine GT ?_ ?_<;>intro hg<;>clear hA a<;>intro a hA<;>(first|exact FA|replace hg:=dTr hg|replace hg:=dFa hg|skip))|(refine XT ?_;apply XE;(first|(apply ex_indexAddr_nat;rfl;rfl;omega;exact hsp)|(apply ex_load_st (vs:=encN (.mk k x1 xs n ns r va ko kc kids));rfl;rfl;exact cls_rd hR.1 id hvs));clear hA a;intro a hA)|(refine QT ?_;clear hA a;intro a hA)|(first|(refine BT ?_;clear hA hH;rintro _ w ⟨bN,rfl,hH⟩ a hA)|(refine LT ?_;clear hA hH;rintro _ w ⟨oN,rfl,hH⟩ a hA)|(refine AT ?_;clear hA;rintro _ w ⟨oN,cN,rfl,hH2⟩ a hA;clear hH;have hH:=(hH2 _ (by (repeat constructor))).tail;clear hH2)|(refine S0T ?_;clear hH;rintro _ w hH)))|refine CT ?_|(refine DT ?_ ?_<;>intro hc<;>try (exfalso;omega))|(first|(refine DSK ?_;clear hA a;intro a hA)|(first|(refine DLT ?_;clear hA hH;rintro _ w ⟨oN,rfl,hH⟩;refine ⟨STT,?_⟩;intro a hA)|(refine DAT ?_;clear hA;rintro _ w ⟨oN,cN,rfl,hH2⟩;clear hH;have hH:=(hH2 _ (by (repeat constructor))).tail;clear hH2;refine ⟨STT,?_⟩;intro a hA))))
    (refine st_op hA rfl rfl (by decide) (op_call rfl rfl rfl (lam_spec w0 _ H c la bK bE bW bJ bO b3 b5 _ d t hbx hm h3 h5 hs hd hd2 hH)) ?_;clear hA hH)
    rintro _ w (⟨s',he,rfl,hH⟩| ⟨he,rfl,s',hH⟩) a hA
    · rw [he,Option.bind_some] at heq
      repeat' (first|(first|(refine GT ?_ ?_<;>intro hg<;>clear hA a<;>intro a hA<;>(first|exact FA|replace hg:=dTr hg|replace hg:=dFa hg|skip))|(refine QT ?_;clear hA a;intro a hA)|(first|(refine BT ?_;clear hA hH;rintro _ w ⟨bN,rfl,hH⟩ a hA)|(refine LT ?_;clear hA hH;rintro _ w ⟨oN,rfl,hH⟩ a hA)|(refine AT ?_;clear hA;rintro _ w ⟨oN,cN,rfl,hH2⟩ a hA;clear hH;have hH:=(hH2 _ (by (repeat constructor))).tail;clear hH2)|(refine S0T ?_;clear hH;rintro _ w hH)))|refine CT ?_|(refine DT ?_ ?_<;>intro hc<;>try (exfalso;omega))|(first|(refine DSK ?_;clear hA a;intro a hA)|(first|(refine DLT ?_;clear hA hH;rintro _ w ⟨oN,rfl,hH⟩;refine ⟨STT,?_⟩;intro a hA)|(refine DAT ?_;clear hA;rintro _ w ⟨oN,cN,rfl,hH2⟩;clear hH;have hH:=(hH2 _ (by (repeat constructor))).tail;clear hH2;refine ⟨STT,?_⟩;intro a hA))))
      exact ⟨(i+1,s'),⟨⟨hlt,bodyF_ok _ _ _ _ hs he,heq⟩,hH,(hA.sub SBT)⟩,by dsimp only;omega⟩
    · rw [he,Option.bind_none] at heq
      repeat' (first|(first|(refine GT ?_ ?_<;>intro hg<;>clear hA a<;>intro a hA<;>(first|exact FA|replace hg:=dTr hg|replace hg:=dFa hg|skip))|(refine QT ?_;clear hA a;intro a hA)|(first|(refine BT ?_;clear hA hH;rintro _ w ⟨bN,rfl,hH⟩ a hA)|(refine LT ?_;clear hA hH;rintro _ w ⟨oN,rfl,hH⟩ a hA)|(refine AT ?_;clear hA;rintro _ w ⟨oN,cN,rfl,hH2⟩ a hA;clear hH;have hH:=(hH2 _ (by (repeat constructor))).tail;clear hH2)|(refine S0T ?_;clear hH;rintro _ w hH)))|refine CT ?_|(refine DT ?_ ?_<;>intro hc<;>try (exfalso;omega))|(first|(refine DSK ?_;clear hA a;intro a hA)|(first|(refine DLT ?_;clear hA hH;rintro _ w ⟨oN,rfl,hH⟩;refine ⟨STT,?_⟩;intro a hA)|(refine DAT ?_;clear hA;rintro _ w ⟨oN,cN,rfl,hH2⟩;clear hH;have hH:=(hH2 _ (by (repeat constructor))).tail;clear hH2;refine ⟨STT,?_⟩;intro a hA))))
      exact rt1 (.inl rfl) rfl hA rfl (.inr ⟨heq,i,rfl,s',hH⟩)
  clear hA hH
  rintro a w ⟨s',hq,hH,hA⟩
  repeat' (first|(first|(refine GT ?_ ?_<;>intro hg<;>clear hA a<;>intro a hA<;>(first|exact FA|replace hg:=dTr hg|replace hg:=dFa hg|skip))|(refine QT ?_;clear hA a;intro a hA)|(first|(refine BT ?_;clear hA hH;rintro _ w ⟨bN,rfl,hH⟩ a hA)|(refine LT ?_;clear hA hH;rintro _ w ⟨oN,rfl,hH⟩ a hA)|(refine AT ?_;clear hA;rintro _ w ⟨oN,cN,rfl,hH2⟩ a hA;clear hH;have hH:=(hH2 _ (by (repeat constructor))).tail;clear hH2)|(refine S0T ?_;clear hH;rintro _ w hH)))|refine CT ?_|(refine DT ?_ ?_<;>intro hc<;>try (exfalso;omega))|(first|(refine DSK ?_;clear hA a;intro a hA)|(first|(refine DLT ?_;clear hA hH;rintro _ w ⟨oN,rfl,hH⟩;refine ⟨STT,?_⟩;intro a hA)|(refine DAT ?_;clear hA;rintro _ w ⟨oN,cN,rfl,hH2⟩;clear hH;have hH:=(hH2 _ (by (repeat constructor))).tail;clear hH2;refine ⟨STT,?_⟩;intro a hA))))
  exact rt1 (.inl rfl) rfl hA rfl (.inl ⟨s',hq,rfl,hH⟩)
theorem containsFN_spec (w0 w:World) (H:List It) (c:Kk) (la:List Int) (bK bE bW bJ bO b3 b5:Nat) (v:Vec AN) (d:Int) (s:CS) (hR:RdV w0 encN v) (hb:∀b∈v.l,BodyC w0 c la bK bE bW bJ bO b) (hl:v.l.length≤17592186044416) (hm:own 3 1 c.oA c.nA c.cA (flat Fw.encI la)∈H)
    (h3:cb b3 124 [.pointer (some (bat bK 0))]∈H) (h5:cb b5 3 [.int .i64 d]∈H) (hs:CsOk s) (hd:1≤d) (hd2:d≤32768) (hH:HS w0 noM (cb bK 127 (encKk c (s).p)::sk bE (s).ever::sk bW (s).now::mpI bJ (s).js::sk bO (s).op::H) w) :
    Ret Tryz.prog 84 #[.slice v.o v.l.length v.c,lamV b3 b5] w (fun r w'=>
      (∃s':CS,kidsF c.g la c.caps v.l (d+1) s=some s'∧r= .bool false∧HS w0 noM (cb bK 127 (encKk c (s').p)::sk bE (s').ever::sk bW (s').now::mpI bJ (s').js::sk bO (s').op::H) w')∨(kidsF c.g la c.caps v.l (d+1) s=none∧r= .bool true∧∃s':CS,HS w0 noM (cb bK 127 (encKk c (s').p)::sk bE (s').ever::sk bW (s').now::mpI bJ (s').js::sk bO (s').op::H) w')):=by
  (refine ENT (N:=9) Tryz.func84 Tryz.ntmps84 ?_;intro a hA)
  repeat' (first|(first|(refine GT ?_ ?_<;>intro hg<;>clear hA a<;>intro a hA<;>(first|exact FA|replace hg:=dTr hg|replace hg:=dFa hg|skip))|(refine QT ?_;clear hA a;intro a hA)|(first|(refine BT ?_;clear hA hH;rintro _ w ⟨bN,rfl,hH⟩ a hA)|(refine LT ?_;clear hA hH;rintro _ w ⟨oN,rfl,hH⟩ a hA)|(refine AT ?_;clear hA;rintro _ w ⟨oN,cN,rfl,hH2⟩ a hA;clear hH;have hH:=(hH2 _ (by (repeat constructor))).tail;clear hH2)|(refine S0T ?_;clear hH;rintro _ w hH)))|refine CT ?_|(refine DT ?_ ?_<;>intro hc<;>try (exfalso;omega))|(first|(refine DSK ?_;clear hA a;intro a hA)|(first|(refine DLT ?_;clear hA hH;rintro _ w ⟨oN,rfl,hH⟩;refine ⟨STT,?_⟩;intro a hA)|(refine DAT ?_;clear hA;rintro _ w ⟨oN,cN,rfl,hH2⟩;clear hH;have hH:=(hH2 _ (by (repeat constructor))).tail;clear hH2;refine ⟨STT,?_⟩;intro a hA))))
  (refine st_op hA rfl rfl (by decide) (op_call rfl rfl rfl (indexFN_spec w0 _ H c la bK bE bW bJ bO b3 b5 v d s hR hb hl hm h3 h5 hs hd hd2 hH)) ?_;clear hA hH)
  rintro _ w (⟨s',he,rfl,hH⟩| ⟨he,n,rfl,s',hH⟩) a hA
  · repeat' (first|(first|(refine GT ?_ ?_<;>intro hg<;>clear hA a<;>intro a hA<;>(first|exact FA|replace hg:=dTr hg|replace hg:=dFa hg|skip))|(refine QT ?_;clear hA a;intro a hA)|(first|(refine BT ?_;clear hA hH;rintro _ w ⟨bN,rfl,hH⟩ a hA)|(refine LT ?_;clear hA hH;rintro _ w ⟨oN,rfl,hH⟩ a hA)|(refine AT ?_;clear hA;rintro _ w ⟨oN,cN,rfl,hH2⟩ a hA;clear hH;have hH:=(hH2 _ (by (repeat constructor))).tail;clear hH2)|(refine S0T ?_;clear hH;rintro _ w hH)))|refine CT ?_|(refine DT ?_ ?_<;>intro hc<;>try (exfalso;omega))|(first|(refine DSK ?_;clear hA a;intro a hA)|(first|(refine DLT ?_;clear hA hH;rintro _ w ⟨oN,rfl,hH⟩;refine ⟨STT,?_⟩;intro a hA)|(refine DAT ?_;clear hA;rintro _ w ⟨oN,cN,rfl,hH2⟩;clear hH;have hH:=(hH2 _ (by (repeat constructor))).tail;clear hH2;refine ⟨STT,?_⟩;intro a hA))))
    exact rt1 (.inl rfl) rfl hA rfl (.inl ⟨s',he,rfl,hH⟩)
  · repeat' (first|(first|(refine GT ?_ ?_<;>intro hg<;>clear hA a<;>intro a hA<;>(first|exact FA|replace hg:=dTr hg|replace hg:=dFa hg|skip))|(refine QT ?_;clear hA a;intro a hA)|(first|(refine BT ?_;clear hA hH;rintro _ w ⟨bN,rfl,hH⟩ a hA)|(refine LT ?_;clear hA hH;rintro _ w ⟨oN,rfl,hH⟩ a hA)|(refine AT ?_;clear hA;rintro _ w ⟨oN,cN,rfl,hH2⟩ a hA;clear hH;have hH:=(hH2 _ (by (repeat constructor))).tail;clear hH2)|(refine S0T ?_;clear hH;rintro _ w hH)))|refine CT ?_|(refine DT ?_ ?_<;>intro hc<;>try (exfalso;omega))|(first|(refine DSK ?_;clear hA a;intro a hA)|(first|(refine DLT ?_;clear hA hH;rintro _ w ⟨oN,rfl,hH⟩;refine ⟨STT,?_⟩;intro a hA)|(refine DAT ?_;clear hA;rintro _ w ⟨oN,cN,rfl,hH2⟩;clear hH;have hH:=(hH2 _ (by (repeat constructor))).tail;clear hH2;refine ⟨STT,?_⟩;intro a hA))))
    exact rt1 (.inl rfl) rfl hA rfl (.inr ⟨he,by rw [decide_eq_true (by omega)],s',hH⟩)
end
theorem one_kid {l:List AN} {i:Nat} (h:i<l.length):∃b,l[i]?=some b:=⟨_,List.getElem?_eq_getElem h⟩
theorem firstF_at {g:Grs} {la:List Int} {mine d:Int} {l:List AN} {b:AN} {s:CS} (h:l[0]?=some b):firstF g la mine l d s=bodyF g la mine b d s:=by
  match l,h with
  |b'::l,h=>cases h;rw [firstF]
theorem joinF_at {g:Grs} {la:List Int} {mine d n:Int} {l:List AN} {b b':AN} {s:CS} {xs:List Int} (h:l[0]?=some b) (h2:l[1]?=some b'):joinF g la mine l xs n d s=(bodyF g la mine b d s).bind fun s=>(bodyF g la mine b' d (opF n (unbF xs s))).map (shF n):=by
  match l,h,h2 with
  |b1::b2::l,h,h2=>cases h;cases h2;rw [joinF];simp only [firstF]
section
attribute [local irreducible] Code.wp wpList Calls Ex Op1 sat bat blk cb own Go.Fw.mp Go.Fw.mpO Go.Fw.mpI Go.Fw.mpE Go.Fw.itr HS Rd Ret wkD Hp Cl Cls Exit.then Exit.inBlock Exit.noGoto bodyPost Go.Fw.flat wk2 Go.Fw.all Go.Fw.owns wpOp
attribute [local irreducible] sk mpK sko mvO entK

theorem joinN_spec (w0 w:World) (H:List It) (c:Kk) (la:List Int) (bK bE bW bJ bO:Nat) (he:c.e=some bE) (hc:c.n=some bW) (hj:c.j=some bJ) (ho:c.o=some bO) (k x n:Int) (xs ns:Vec Int) (r:Stp) (va:Vec Atm) (ko:Option Addr) (kc:Nat) (kids:List AN)
    (h1:RdV w0 Fw.encI xs∧xs.l.length≤17592186044416) (h6:RdV w0 encN ⟨ko,kc,kids⟩) (hk2:kids.length=2) (hb:∀b∈kids,BodyC w0 c la bK bE bW bJ bO b) (d:Int) (s:CS) (hm:own 3 1 c.oA c.nA c.cA (flat Fw.encI la)∈H) (hs:CsOk s) (hd:1≤d) (hd2:d≤32768)
    (hH:HS w0 noM (cb bK 127 (encKk c s.p)::sk bE s.ever::sk bW s.now::mpI bJ s.js::sk bO s.op::H) w) :
    Ret Tryz.prog 83 #[.pointer (some (bat bK 0)),.agg (encN (.mk k x xs n ns r va ko kc kids)).toArray,.int .i64 d] w (BodyQ w0 c la bK bE bW bJ bO H ((newJ xs.l n s).bind fun s=>joinF c.g la c.caps kids xs.l n (d+1) s)):=by
  obtain ⟨oP,nP,cP,g,oA,nA,cA,caps,e,n0,j,o⟩:=c
  obtain rfl:n0=some bW:=hc
  obtain rfl:e=some bE:=he
  obtain rfl:j=some bJ:=hj
  obtain rfl:o=some bO:=ho
  have hxl:=h1.2
  obtain ⟨b1,hx1⟩:=one_kid (l:=kids) (i:=0) (by omega)
  obtain ⟨b2,hx2⟩:=one_kid (l:=kids) (i:=1) (by omega)
  simp only [joinF_at hx1 hx2]
  have hb1:=hb b1 (List.mem_of_getElem? hx1)
  have hb2:=hb b2 (List.mem_of_getElem? hx2)
  have hvs1:=flat_all encN_len hx1
  have hvs2:=flat_all encN_len hx2
  have hsp:Sp ko kids.length:=h6.1.sp (sz:=11) (flat_length encN_len _) (by omega)
  (refine ENT (N:=71) Tryz.func83 Tryz.ntmps83 ?_;intro a hA)
  repeat refine CT ?_
  (refine BT ?_;clear hA hH;rintro _ w ⟨b4,rfl,hH⟩ a hA)
  replace hH:HS w0 noM ((cb bK 127 (encKk ⟨oP,nP,cP,g,oA,nA,cA,caps,some bE,some bW,some bJ,some bO⟩ (s).p)::sk bE (s).ever::sk bW (s).now::mpI bJ (s).js::sk bO (s).op::cb b4 70 (encN (.mk k x xs n ns r va ko kc kids))::H)) w:=hH.perm PMT
  repeat' (first|(first|(refine GT ?_ ?_<;>intro hg<;>clear hA a<;>intro a hA<;>(first|exact FA|replace hg:=dTr hg|replace hg:=dFa hg|skip))|(refine QT ?_;clear hA a;intro a hA)|(first|(refine BT ?_;clear hA hH;rintro _ w ⟨bN,rfl,hH⟩ a hA)|(refine LT ?_;clear hA hH;rintro _ w ⟨oN,rfl,hH⟩ a hA)|(refine AT ?_;clear hA;rintro _ w ⟨oN,cN,rfl,hH2⟩ a hA;clear hH;have hH:=(hH2 _ (by (repeat constructor))).tail;clear hH2)|(refine S0T ?_;clear hH;rintro _ w hH)))|refine CT ?_|(refine DT ?_ ?_<;>intro hc<;>try (exfalso;omega))|(first|(refine DSK ?_;clear hA a;intro a hA)|(first|(refine DLT ?_;clear hA hH;rintro _ w ⟨oN,rfl,hH⟩;refine ⟨STT,?_⟩;intro a hA)|(refine DAT ?_;clear hA;rintro _ w ⟨oN,cN,rfl,hH2⟩;clear hH;have hH:=(hH2 _ (by (repeat constructor))).tail;clear hH2;refine ⟨STT,?_⟩;intro a hA))))
  (refine wp_draw_HS [(0,1),(1,1),(2,1),(3,1),(4,1),(5,1),(6,1),(7,1),(8,1),(9,1),(10,1),(11,1)] mixed (by decide +kernel) hH ?_;replace hH:=hH.drew)
  repeat' (first|(first|(refine GT ?_ ?_<;>intro hg<;>clear hA a<;>intro a hA<;>(first|exact FA|replace hg:=dTr hg|replace hg:=dFa hg|skip))|(refine QT ?_;clear hA a;intro a hA)|(first|(refine BT ?_;clear hA hH;rintro _ w ⟨bN,rfl,hH⟩ a hA)|(refine LT ?_;clear hA hH;rintro _ w ⟨oN,rfl,hH⟩ a hA)|(refine AT ?_;clear hA;rintro _ w ⟨oN,cN,rfl,hH2⟩ a hA;clear hH;have hH:=(hH2 _ (by (repeat constructor))).tail;clear hH2)|(refine S0T ?_;clear hH;rintro _ w hH)))|refine CT ?_|(refine DT ?_ ?_<;>intro hc<;>try (exfalso;omega))|(first|(refine DSK ?_;clear hA a;intro a hA)|(first|(refine DLT ?_;clear hA hH;rintro _ w ⟨oN,rfl,hH⟩;refine ⟨STT,?_⟩;intro a hA)|(refine DAT ?_;clear hA;rintro _ w ⟨oN,cN,rfl,hH2⟩;clear hH;have hH:=(hH2 _ (by (repeat constructor))).tail;clear hH2;refine ⟨STT,?_⟩;intro a hA))))
  · have hJ:newJ xs.l n s=none:=if_pos (by assumption)
    rw [hJ]
    exact rt1 (.inl rfl) rfl hA rfl (.inr ⟨rfl,rfl,s,hH.rm 5⟩)
  have hJ:newJ xs.l n s=bindF xs.l {s with js:=setI s.js n xs.l.length}:=if_neg (by simp only [*];decide)
  rw [hJ]
  (refine wp_draw2_HS [(0,1),(1,1),(2,1),(3,1),(4,1),(5,1),(6,1),(7,1),(8,1)] [9] mixed (by decide +kernel) hH ?_;replace hH:=hH.drew)
  repeat' (first|(first|(refine GT ?_ ?_<;>intro hg<;>clear hA a<;>intro a hA<;>(first|exact FA|replace hg:=dTr hg|replace hg:=dFa hg|skip))|(refine QT ?_;clear hA a;intro a hA)|(first|(refine BT ?_;clear hA hH;rintro _ w ⟨bN,rfl,hH⟩ a hA)|(refine LT ?_;clear hA hH;rintro _ w ⟨oN,rfl,hH⟩ a hA)|(refine AT ?_;clear hA;rintro _ w ⟨oN,cN,rfl,hH2⟩ a hA;clear hH;have hH:=(hH2 _ (by (repeat constructor))).tail;clear hH2)|(refine S0T ?_;clear hH;rintro _ w hH)))|refine CT ?_|(refine DT ?_ ?_<;>intro hc<;>try (exfalso;omega))|(first|(refine DSK ?_;clear hA a;intro a hA)|(first|(refine DLT ?_;clear hA hH;rintro _ w ⟨oN,rfl,hH⟩;refine ⟨STT,?_⟩;intro a hA)|(refine DAT ?_;clear hA;rintro _ w ⟨oN,cN,rfl,hH2⟩;clear hH;have hH:=(hH2 _ (by (repeat constructor))).tail;clear hH2;refine ⟨STT,?_⟩;intro a hA))))
  (refine dr_op03 hA rfl rfl rfl (op_mapUpdateI rfl rfl rfl hH (by (repeat constructor))) ?_;clear hH;rintro _ w hH)
  have hs1:CsOk {s with js:=setI s.js n xs.l.length}:=⟨hs.p0,hs.p1,hs.now⟩
  replace hH:HS w0 noM ((cb bK 127 (encKk ⟨oP,nP,cP,g,oA,nA,cA,caps,some bE,some bW,some bJ,some bO⟩ ({s with js:=setI s.js n xs.l.length}).p)::sk bE ({s with js:=setI s.js n xs.l.length}).ever::sk bW ({s with js:=setI s.js n xs.l.length}).now::mpI bJ ({s with js:=setI s.js n xs.l.length}).js::sk bO ({s with js:=setI s.js n xs.l.length}).op::cb b4 70 (encN (.mk k x xs n ns r va ko kc kids))::H)) w:=hH
  obtain ⟨s1,hs1e⟩:∃t:CS,t={s with js:=setI s.js n xs.l.length}:=⟨_,rfl⟩
  rw [←hs1e] at hs1 hH ⊢
  clear hs1e hJ
  repeat' (first|(first|(refine GT ?_ ?_<;>intro hg<;>clear hA a<;>intro a hA<;>(first|exact FA|replace hg:=dTr hg|replace hg:=dFa hg|skip))|(refine QT ?_;clear hA a;intro a hA)|(first|(refine BT ?_;clear hA hH;rintro _ w ⟨bN,rfl,hH⟩ a hA)|(refine LT ?_;clear hA hH;rintro _ w ⟨oN,rfl,hH⟩ a hA)|(refine AT ?_;clear hA;rintro _ w ⟨oN,cN,rfl,hH2⟩ a hA;clear hH;have hH:=(hH2 _ (by (repeat constructor))).tail;clear hH2)|(refine S0T ?_;clear hH;rintro _ w hH)))|refine CT ?_|(refine DT ?_ ?_<;>intro hc<;>try (exfalso;omega))|(first|(refine DSK ?_;clear hA a;intro a hA)|(first|(refine DLT ?_;clear hA hH;rintro _ w ⟨oN,rfl,hH⟩;refine ⟨STT,?_⟩;intro a hA)|(refine DAT ?_;clear hA;rintro _ w ⟨oN,cN,rfl,hH2⟩;clear hH;have hH:=(hH2 _ (by (repeat constructor))).tail;clear hH2;refine ⟨STT,?_⟩;intro a hA))))
  (refine st_op hA rfl rfl (by decide) (op_call rfl rfl rfl (bindN_spec w0 _ (mpI bJ s1.js::sk bO s1.op::cb b4 70 (encN (.mk k x xs n ns r va ko kc kids))::H) ⟨oP,nP,cP,g,oA,nA,cA,caps,some bE,some bW,some bJ,some bO⟩ bK bE bW s1.p s1.ever s1.now xs rfl rfl hH (fun _ _ _ hw=>hw.rd h1.1.1 id) hxl hs1.now)) ?_;clear hA hH)
  rintro _ w (⟨q,hq,rfl,hH⟩| ⟨hq,rfl,es',ks',hH⟩) a hA
  rotate_left
  · have hF:bindF xs.l s1=none:=by unfold bindF;rw [hq];rfl
    rw [hF]
    repeat' (first|(first|(refine GT ?_ ?_<;>intro hg<;>clear hA a<;>intro a hA<;>(first|exact FA|replace hg:=dTr hg|replace hg:=dFa hg|skip))|(refine QT ?_;clear hA a;intro a hA)|(first|(refine BT ?_;clear hA hH;rintro _ w ⟨bN,rfl,hH⟩ a hA)|(refine LT ?_;clear hA hH;rintro _ w ⟨oN,rfl,hH⟩ a hA)|(refine AT ?_;clear hA;rintro _ w ⟨oN,cN,rfl,hH2⟩ a hA;clear hH;have hH:=(hH2 _ (by (repeat constructor))).tail;clear hH2)|(refine S0T ?_;clear hH;rintro _ w hH)))|refine CT ?_|(refine DT ?_ ?_<;>intro hc<;>try (exfalso;omega))|(first|(refine DSK ?_;clear hA a;intro a hA)|(first|(refine DLT ?_;clear hA hH;rintro _ w ⟨oN,rfl,hH⟩;refine ⟨STT,?_⟩;intro a hA)|(refine DAT ?_;clear hA;rintro _ w ⟨oN,cN,rfl,hH2⟩;clear hH;have hH:=(hH2 _ (by (repeat constructor))).tail;clear hH2;refine ⟨STT,?_⟩;intro a hA))))
    exact rt1 (.inl rfl) rfl hA rfl (.inr ⟨rfl,rfl,{s1 with ever:=es',now:=ks'},hH.rm 5⟩)
  have hF:bindF xs.l s1=some {s1 with ever:=q.1,now:=q.2}:=by unfold bindF;rw [hq];rfl
  have hs2:=bindF_ok hs1 hF
  rw [hF,Option.bind_some]
  replace hH:HS w0 noM ((cb bK 127 (encKk ⟨oP,nP,cP,g,oA,nA,cA,caps,some bE,some bW,some bJ,some bO⟩ ({s1 with ever:=q.1,now:=q.2}).p)::sk bE ({s1 with ever:=q.1,now:=q.2}).ever::sk bW ({s1 with ever:=q.1,now:=q.2}).now::mpI bJ ({s1 with ever:=q.1,now:=q.2}).js::sk bO ({s1 with ever:=q.1,now:=q.2}).op::cb b4 70 (encN (.mk k x xs n ns r va ko kc kids))::H)) w:=hH
  obtain ⟨s2,hs2e⟩:∃t:CS,t={s1 with ever:=q.1,now:=q.2}:=⟨_,rfl⟩
  rw [←hs2e] at hs2 hH ⊢
  clear hF hs2e hq
  obtain ⟨k',x',xs',n',ns',r',va',ko',kc',kids'⟩:=b1
  repeat' (first|(first|(refine GT ?_ ?_<;>intro hg<;>clear hA a<;>intro a hA<;>(first|exact FA|replace hg:=dTr hg|replace hg:=dFa hg|skip))|(refine XT ?_;apply XE;(first|(apply ex_indexAddr;rfl;rfl;omega;omega;exact hsp)|(apply ex_load_st (vs:=encN (.mk k' x' xs' n' ns' r' va' ko' kc' kids'));rfl;rfl;exact cls_rd h6.1 id hvs1));clear hA a;intro a hA)|(refine QT ?_;clear hA a;intro a hA)|(first|(refine BT ?_;clear hA hH;rintro _ w ⟨bN,rfl,hH⟩ a hA)|(refine LT ?_;clear hA hH;rintro _ w ⟨oN,rfl,hH⟩ a hA)|(refine AT ?_;clear hA;rintro _ w ⟨oN,cN,rfl,hH2⟩ a hA;clear hH;have hH:=(hH2 _ (by (repeat constructor))).tail;clear hH2)|(refine S0T ?_;clear hH;rintro _ w hH)))|refine CT ?_|(refine DT ?_ ?_<;>intro hc<;>try (exfalso;omega))|(first|(refine DSK ?_;clear hA a;intro a hA)|(first|(refine DLT ?_;clear hA hH;rintro _ w ⟨oN,rfl,hH⟩;refine ⟨STT,?_⟩;intro a hA)|(refine DAT ?_;clear hA;rintro _ w ⟨oN,cN,rfl,hH2⟩;clear hH;have hH:=(hH2 _ (by (repeat constructor))).tail;clear hH2;refine ⟨STT,?_⟩;intro a hA))))
  (refine st_op hA rfl rfl (by decide) (op_call rfl rfl rfl (hb1 (cb b4 70 (encN (.mk k x xs n ns r va ko kc kids))::H) _ (d+1) s2 (.tail _ hm) hs2 (by omega) (by omega) hH)) ?_;clear hA hH)
  rintro _ w (⟨s3,he,rfl,hH⟩| ⟨he,rfl,s3,hH⟩) a hA
  rotate_left
  · have he':bodyF g la caps (.mk k' x' xs' n' ns' r' va' ko' kc' kids') (d+1) s2=none:=he
    rw [he']
    repeat' (first|(first|(refine GT ?_ ?_<;>intro hg<;>clear hA a<;>intro a hA<;>(first|exact FA|replace hg:=dTr hg|replace hg:=dFa hg|skip))|(refine QT ?_;clear hA a;intro a hA)|(first|(refine BT ?_;clear hA hH;rintro _ w ⟨bN,rfl,hH⟩ a hA)|(refine LT ?_;clear hA hH;rintro _ w ⟨oN,rfl,hH⟩ a hA)|(refine AT ?_;clear hA;rintro _ w ⟨oN,cN,rfl,hH2⟩ a hA;clear hH;have hH:=(hH2 _ (by (repeat constructor))).tail;clear hH2)|(refine S0T ?_;clear hH;rintro _ w hH)))|refine CT ?_|(refine DT ?_ ?_<;>intro hc<;>try (exfalso;omega))|(first|(refine DSK ?_;clear hA a;intro a hA)|(first|(refine DLT ?_;clear hA hH;rintro _ w ⟨oN,rfl,hH⟩;refine ⟨STT,?_⟩;intro a hA)|(refine DAT ?_;clear hA;rintro _ w ⟨oN,cN,rfl,hH2⟩;clear hH;have hH:=(hH2 _ (by (repeat constructor))).tail;clear hH2;refine ⟨STT,?_⟩;intro a hA))))
    exact rt1 (.inl rfl) rfl hA rfl (.inr ⟨rfl,rfl,s3,hH.rm 5⟩)
  have he':bodyF g la caps (.mk k' x' xs' n' ns' r' va' ko' kc' kids') (d+1) s2=some s3:=he
  have hs3:=bodyF_ok _ _ _ _ hs2 he'
  rw [he',Option.bind_some]
  repeat' (first|(first|(refine GT ?_ ?_<;>intro hg<;>clear hA a<;>intro a hA<;>(first|exact FA|replace hg:=dTr hg|replace hg:=dFa hg|skip))|(refine QT ?_;clear hA a;intro a hA)|(first|(refine BT ?_;clear hA hH;rintro _ w ⟨bN,rfl,hH⟩ a hA)|(refine LT ?_;clear hA hH;rintro _ w ⟨oN,rfl,hH⟩ a hA)|(refine AT ?_;clear hA;rintro _ w ⟨oN,cN,rfl,hH2⟩ a hA;clear hH;have hH:=(hH2 _ (by (repeat constructor))).tail;clear hH2)|(refine S0T ?_;clear hH;rintro _ w hH)))|refine CT ?_|(refine DT ?_ ?_<;>intro hc<;>try (exfalso;omega))|(first|(refine DSK ?_;clear hA a;intro a hA)|(first|(refine DLT ?_;clear hA hH;rintro _ w ⟨oN,rfl,hH⟩;refine ⟨STT,?_⟩;intro a hA)|(refine DAT ?_;clear hA;rintro _ w ⟨oN,cN,rfl,hH2⟩;clear hH;have hH:=(hH2 _ (by (repeat constructor))).tail;clear hH2;refine ⟨STT,?_⟩;intro a hA))))
  (refine st_op hA rfl rfl (by decide) (op_call rfl rfl rfl (unbN_spec w0 _ (sk bE s3.ever::mpI bJ s3.js::sk bO s3.op::cb b4 70 (encN (.mk k x xs n ns r va ko kc kids))::H) ⟨oP,nP,cP,g,oA,nA,cA,caps,some bE,some bW,some bJ,some bO⟩ bK bW s3.p s3.now xs rfl (hH.perm PMT) (fun _ _ hw=>hw.rd h1.1.1 id) hxl)) ?_;clear hA hH)
  rintro _ w ⟨rfl,hH⟩ a hA
  replace hH:HS w0 noM ((cb bK 127 (encKk ⟨oP,nP,cP,g,oA,nA,cA,caps,some bE,some bW,some bJ,some bO⟩ (unbF xs.l s3).p)::sk bE (unbF xs.l s3).ever::sk bW (unbF xs.l s3).now::mpI bJ (unbF xs.l s3).js::sk bO (unbF xs.l s3).op::cb b4 70 (encN (.mk k x xs n ns r va ko kc kids))::H)) w:=hH.perm PMT
  repeat' (first|(first|(refine GT ?_ ?_<;>intro hg<;>clear hA a<;>intro a hA<;>(first|exact FA|replace hg:=dTr hg|replace hg:=dFa hg|skip))|(refine QT ?_;clear hA a;intro a hA)|(first|(refine BT ?_;clear hA hH;rintro _ w ⟨bN,rfl,hH⟩ a hA)|(refine LT ?_;clear hA hH;rintro _ w ⟨oN,rfl,hH⟩ a hA)|(refine AT ?_;clear hA;rintro _ w ⟨oN,cN,rfl,hH2⟩ a hA;clear hH;have hH:=(hH2 _ (by (repeat constructor))).tail;clear hH2)|(refine S0T ?_;clear hH;rintro _ w hH)))|refine CT ?_|(refine DT ?_ ?_<;>intro hc<;>try (exfalso;omega))|(first|(refine DSK ?_;clear hA a;intro a hA)|(first|(refine DLT ?_;clear hA hH;rintro _ w ⟨oN,rfl,hH⟩;refine ⟨STT,?_⟩;intro a hA)|(refine DAT ?_;clear hA;rintro _ w ⟨oN,cN,rfl,hH2⟩;clear hH;have hH:=(hH2 _ (by (repeat constructor))).tail;clear hH2;refine ⟨STT,?_⟩;intro a hA))))
  (refine wp_draw2_HS [(0,1),(1,1),(2,1),(3,1),(4,1),(5,1)] [6] mixed (by decide +kernel) hH ?_;replace hH:=hH.drew)
  repeat' (first|(first|(refine GT ?_ ?_<;>intro hg<;>clear hA a<;>intro a hA<;>(first|exact FA|replace hg:=dTr hg|replace hg:=dFa hg|skip))|(refine QT ?_;clear hA a;intro a hA)|(first|(refine BT ?_;clear hA hH;rintro _ w ⟨bN,rfl,hH⟩ a hA)|(refine LT ?_;clear hA hH;rintro _ w ⟨oN,rfl,hH⟩ a hA)|(refine AT ?_;clear hA;rintro _ w ⟨oN,cN,rfl,hH2⟩ a hA;clear hH;have hH:=(hH2 _ (by (repeat constructor))).tail;clear hH2)|(refine S0T ?_;clear hH;rintro _ w hH)))|refine CT ?_|(refine DT ?_ ?_<;>intro hc<;>try (exfalso;omega))|(first|(refine DSK ?_;clear hA a;intro a hA)|(first|(refine DLT ?_;clear hA hH;rintro _ w ⟨oN,rfl,hH⟩;refine ⟨STT,?_⟩;intro a hA)|(refine DAT ?_;clear hA;rintro _ w ⟨oN,cN,rfl,hH2⟩;clear hH;have hH:=(hH2 _ (by (repeat constructor))).tail;clear hH2;refine ⟨STT,?_⟩;intro a hA))))
  (refine dr_op03 hA rfl rfl rfl (op_addK rfl rfl rfl hH (by (repeat constructor))) ?_;clear hH;rintro _ w hH)
  have hs4:CsOk (opF n (unbF xs.l s3)):=hs3.unb.op
  replace hH:HS w0 noM ((cb bK 127 (encKk ⟨oP,nP,cP,g,oA,nA,cA,caps,some bE,some bW,some bJ,some bO⟩ (opF n (unbF xs.l s3)).p)::sk bE (opF n (unbF xs.l s3)).ever::sk bW (opF n (unbF xs.l s3)).now::mpI bJ (opF n (unbF xs.l s3)).js::sk bO (opF n (unbF xs.l s3)).op::cb b4 70 (encN (.mk k x xs n ns r va ko kc kids))::H)) w:=hH
  obtain ⟨s4,hs4e⟩:∃t:CS,t=opF n (unbF xs.l s3):=⟨_,rfl⟩
  rw [←hs4e] at hs4 hH ⊢
  clear hs4e
  obtain ⟨k2,x2,xs2,n2,ns2,r2,va2,ko2,kc2,kids2⟩:=b2
  repeat' (first|(first|(refine GT ?_ ?_<;>intro hg<;>clear hA a<;>intro a hA<;>(first|exact FA|replace hg:=dTr hg|replace hg:=dFa hg|skip))|(refine XT ?_;apply XE;(first|(apply ex_indexAddr;rfl;rfl;omega;omega;exact hsp)|(apply ex_load_st (vs:=encN (.mk k2 x2 xs2 n2 ns2 r2 va2 ko2 kc2 kids2));rfl;rfl;exact cls_rd h6.1 id hvs2));clear hA a;intro a hA)|(refine QT ?_;clear hA a;intro a hA)|(first|(refine BT ?_;clear hA hH;rintro _ w ⟨bN,rfl,hH⟩ a hA)|(refine LT ?_;clear hA hH;rintro _ w ⟨oN,rfl,hH⟩ a hA)|(refine AT ?_;clear hA;rintro _ w ⟨oN,cN,rfl,hH2⟩ a hA;clear hH;have hH:=(hH2 _ (by (repeat constructor))).tail;clear hH2)|(refine S0T ?_;clear hH;rintro _ w hH)))|refine CT ?_|(refine DT ?_ ?_<;>intro hc<;>try (exfalso;omega))|(first|(refine DSK ?_;clear hA a;intro a hA)|(first|(refine DLT ?_;clear hA hH;rintro _ w ⟨oN,rfl,hH⟩;refine ⟨STT,?_⟩;intro a hA)|(refine DAT ?_;clear hA;rintro _ w ⟨oN,cN,rfl,hH2⟩;clear hH;have hH:=(hH2 _ (by (repeat constructor))).tail;clear hH2;refine ⟨STT,?_⟩;intro a hA))))
  (refine st_op hA rfl rfl (by decide) (op_call rfl rfl rfl (hb2 (cb b4 70 (encN (.mk k x xs n ns r va ko kc kids))::H) _ (d+1) s4 (.tail _ hm) hs4 (by omega) (by omega) hH)) ?_;clear hA hH)
  rintro _ w (⟨s5,he2,rfl,hH⟩| ⟨he2,rfl,s5,hH⟩) a hA
  · have he3:bodyF g la caps (.mk k2 x2 xs2 n2 ns2 r2 va2 ko2 kc2 kids2) (d+1) s4=some s5:=he2
    rw [he3]
    repeat' (first|(first|(refine GT ?_ ?_<;>intro hg<;>clear hA a<;>intro a hA<;>(first|exact FA|replace hg:=dTr hg|replace hg:=dFa hg|skip))|(refine QT ?_;clear hA a;intro a hA)|(first|(refine BT ?_;clear hA hH;rintro _ w ⟨bN,rfl,hH⟩ a hA)|(refine LT ?_;clear hA hH;rintro _ w ⟨oN,rfl,hH⟩ a hA)|(refine AT ?_;clear hA;rintro _ w ⟨oN,cN,rfl,hH2⟩ a hA;clear hH;have hH:=(hH2 _ (by (repeat constructor))).tail;clear hH2)|(refine S0T ?_;clear hH;rintro _ w hH)))|refine CT ?_|(refine DT ?_ ?_<;>intro hc<;>try (exfalso;omega))|(first|(refine DSK ?_;clear hA a;intro a hA)|(first|(refine DLT ?_;clear hA hH;rintro _ w ⟨oN,rfl,hH⟩;refine ⟨STT,?_⟩;intro a hA)|(refine DAT ?_;clear hA;rintro _ w ⟨oN,cN,rfl,hH2⟩;clear hH;have hH:=(hH2 _ (by (repeat constructor))).tail;clear hH2;refine ⟨STT,?_⟩;intro a hA))))
    (refine wp_draw2_HS [(0,1),(1,1),(2,1),(3,1),(4,1),(5,1)] [6] mixed (by decide +kernel) hH ?_;replace hH:=hH.drew)
    repeat' (first|(first|(refine GT ?_ ?_<;>intro hg<;>clear hA a<;>intro a hA<;>(first|exact FA|replace hg:=dTr hg|replace hg:=dFa hg|skip))|(refine QT ?_;clear hA a;intro a hA)|(first|(refine BT ?_;clear hA hH;rintro _ w ⟨bN,rfl,hH⟩ a hA)|(refine LT ?_;clear hA hH;rintro _ w ⟨oN,rfl,hH⟩ a hA)|(refine AT ?_;clear hA;rintro _ w ⟨oN,cN,rfl,hH2⟩ a hA;clear hH;have hH:=(hH2 _ (by (repeat constructor))).tail;clear hH2)|(refine S0T ?_;clear hH;rintro _ w hH)))|refine CT ?_|(refine DT ?_ ?_<;>intro hc<;>try (exfalso;omega))|(first|(refine DSK ?_;clear hA a;intro a hA)|(first|(refine DLT ?_;clear hA hH;rintro _ w ⟨oN,rfl,hH⟩;refine ⟨STT,?_⟩;intro a hA)|(refine DAT ?_;clear hA;rintro _ w ⟨oN,cN,rfl,hH2⟩;clear hH;have hH:=(hH2 _ (by (repeat constructor))).tail;clear hH2;refine ⟨STT,?_⟩;intro a hA))))
    (refine dr_op03 hA rfl rfl rfl (op_delK rfl rfl hH (by (repeat constructor))) ?_;clear hH;rintro _ w ⟨rfl,hH⟩)
    repeat' (first|(first|(refine GT ?_ ?_<;>intro hg<;>clear hA a<;>intro a hA<;>(first|exact FA|replace hg:=dTr hg|replace hg:=dFa hg|skip))|(refine QT ?_;clear hA a;intro a hA)|(first|(refine BT ?_;clear hA hH;rintro _ w ⟨bN,rfl,hH⟩ a hA)|(refine LT ?_;clear hA hH;rintro _ w ⟨oN,rfl,hH⟩ a hA)|(refine AT ?_;clear hA;rintro _ w ⟨oN,cN,rfl,hH2⟩ a hA;clear hH;have hH:=(hH2 _ (by (repeat constructor))).tail;clear hH2)|(refine S0T ?_;clear hH;rintro _ w hH)))|refine CT ?_|(refine DT ?_ ?_<;>intro hc<;>try (exfalso;omega))|(first|(refine DSK ?_;clear hA a;intro a hA)|(first|(refine DLT ?_;clear hA hH;rintro _ w ⟨oN,rfl,hH⟩;refine ⟨STT,?_⟩;intro a hA)|(refine DAT ?_;clear hA;rintro _ w ⟨oN,cN,rfl,hH2⟩;clear hH;have hH:=(hH2 _ (by (repeat constructor))).tail;clear hH2;refine ⟨STT,?_⟩;intro a hA))))
    exact rt1 (.inl rfl) rfl hA rfl (.inl ⟨shF n s5,rfl,rfl,hH.rm 5⟩)
  · have he3:bodyF g la caps (.mk k2 x2 xs2 n2 ns2 r2 va2 ko2 kc2 kids2) (d+1) s4=none:=he2
    rw [he3]
    repeat' (first|(first|(refine GT ?_ ?_<;>intro hg<;>clear hA a<;>intro a hA<;>(first|exact FA|replace hg:=dTr hg|replace hg:=dFa hg|skip))|(refine QT ?_;clear hA a;intro a hA)|(first|(refine BT ?_;clear hA hH;rintro _ w ⟨bN,rfl,hH⟩ a hA)|(refine LT ?_;clear hA hH;rintro _ w ⟨oN,rfl,hH⟩ a hA)|(refine AT ?_;clear hA;rintro _ w ⟨oN,cN,rfl,hH2⟩ a hA;clear hH;have hH:=(hH2 _ (by (repeat constructor))).tail;clear hH2)|(refine S0T ?_;clear hH;rintro _ w hH)))|refine CT ?_|(refine DT ?_ ?_<;>intro hc<;>try (exfalso;omega))|(first|(refine DSK ?_;clear hA a;intro a hA)|(first|(refine DLT ?_;clear hA hH;rintro _ w ⟨oN,rfl,hH⟩;refine ⟨STT,?_⟩;intro a hA)|(refine DAT ?_;clear hA;rintro _ w ⟨oN,cN,rfl,hH2⟩;clear hH;have hH:=(hH2 _ (by (repeat constructor))).tail;clear hH2;refine ⟨STT,?_⟩;intro a hA))))
    (refine wp_draw2_HS [(0,1),(1,1),(2,1),(3,1),(4,1),(5,1)] [6] mixed (by decide +kernel) hH ?_;replace hH:=hH.drew)
    repeat' (first|(first|(refine GT ?_ ?_<;>intro hg<;>clear hA a<;>intro a hA<;>(first|exact FA|replace hg:=dTr hg|replace hg:=dFa hg|skip))|(refine QT ?_;clear hA a;intro a hA)|(first|(refine BT ?_;clear hA hH;rintro _ w ⟨bN,rfl,hH⟩ a hA)|(refine LT ?_;clear hA hH;rintro _ w ⟨oN,rfl,hH⟩ a hA)|(refine AT ?_;clear hA;rintro _ w ⟨oN,cN,rfl,hH2⟩ a hA;clear hH;have hH:=(hH2 _ (by (repeat constructor))).tail;clear hH2)|(refine S0T ?_;clear hH;rintro _ w hH)))|refine CT ?_|(refine DT ?_ ?_<;>intro hc<;>try (exfalso;omega))|(first|(refine DSK ?_;clear hA a;intro a hA)|(first|(refine DLT ?_;clear hA hH;rintro _ w ⟨oN,rfl,hH⟩;refine ⟨STT,?_⟩;intro a hA)|(refine DAT ?_;clear hA;rintro _ w ⟨oN,cN,rfl,hH2⟩;clear hH;have hH:=(hH2 _ (by (repeat constructor))).tail;clear hH2;refine ⟨STT,?_⟩;intro a hA))))
    (refine dr_op03 hA rfl rfl rfl (op_delK rfl rfl hH (by (repeat constructor))) ?_;clear hH;rintro _ w ⟨rfl,hH⟩)
    repeat' (first|(first|(refine GT ?_ ?_<;>intro hg<;>clear hA a<;>intro a hA<;>(first|exact FA|replace hg:=dTr hg|replace hg:=dFa hg|skip))|(refine QT ?_;clear hA a;intro a hA)|(first|(refine BT ?_;clear hA hH;rintro _ w ⟨bN,rfl,hH⟩ a hA)|(refine LT ?_;clear hA hH;rintro _ w ⟨oN,rfl,hH⟩ a hA)|(refine AT ?_;clear hA;rintro _ w ⟨oN,cN,rfl,hH2⟩ a hA;clear hH;have hH:=(hH2 _ (by (repeat constructor))).tail;clear hH2)|(refine S0T ?_;clear hH;rintro _ w hH)))|refine CT ?_|(refine DT ?_ ?_<;>intro hc<;>try (exfalso;omega))|(first|(refine DSK ?_;clear hA a;intro a hA)|(first|(refine DLT ?_;clear hA hH;rintro _ w ⟨oN,rfl,hH⟩;refine ⟨STT,?_⟩;intro a hA)|(refine DAT ?_;clear hA;rintro _ w ⟨oN,cN,rfl,hH2⟩;clear hH;have hH:=(hH2 _ (by (repeat constructor))).tail;clear hH2;refine ⟨STT,?_⟩;intro a hA))))
    exact rt1 (.inl rfl) rfl hA rfl (.inr ⟨rfl,rfl,shF n s5,hH.rm 5⟩)
end
end Go.Proofs.YtenlcdokaadobaaGreatDoor
