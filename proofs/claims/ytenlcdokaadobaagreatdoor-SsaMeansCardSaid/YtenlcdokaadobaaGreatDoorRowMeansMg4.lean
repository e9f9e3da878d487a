/-
  anf.May's check of a row of bodies, given what it is of each. Conditions: none.
  anf.May's check of a join, given what it is of its parts. Conditions: none.
  anf.May's check of a body that returns, calls, raises or asks, given what it is of its parts. Conditions: none.
  anf.May at functions that return a number: exactly. Conditions: none.
  anf.May: exactly. Conditions: none.
  How many parts a program has (the document's count). Conditions: none.
-/
import Derived.Test.YtenlcdokaadobaaGreatDoorRowMeansMg3
set_option maxHeartbeats 64000000
set_option maxRecDepth 10000
namespace Go.Proofs.YtenlcdokaadobaaGreatDoor
open Go Go.Fw
set_option linter.unusedVariables false
structure CsOk (s:CS):Prop where
  p0:0≤s.p
  p1:s.p≤65536
  now:NowOk s.ever s.now
theorem foldl_sdel {l ks:List Int} {x:Int}:x∈l.foldl rS ks→x∈ks:=by
  induction l generalizing ks with
  |nil=>exact id
  | cons y l ih=>
    intro h
    rw [List.foldl_cons] at h
    exact (mV.1 (ih h)).1
theorem CsOk.unb {l:List Int} {s:CS} (h:CsOk s):CsOk (tX l s):=⟨h.p0,h.p1,fun x hx=>h.now x (foldl_sdel hx)⟩
theorem CsOk.op {n:Int} {s:CS} (h:CsOk s):CsOk (kB n s):=⟨h.p0,h.p1,h.now⟩
theorem CsOk.sh {n:Int} {s:CS} (h:CsOk s):CsOk (shF n s):=⟨h.p0,h.p1,h.now⟩
section
variable {g:Grs} {la:List Int} {mine:Int}
theorem rE {l:List Int} {s s':CS} (h:CsOk s) (e:sF l s=some s'):CsOk s':=by
  unfold sF at e
  obtain ⟨q,hq,rfl⟩:=Option.map_eq_some_iff.1 e
  exact ⟨h.p0,h.p1,bindL_ok h.now hq⟩
theorem atsF_ok {l:List Atm} {s s':CS} (h:CsOk s) (e:jI g l s=some s'):CsOk s':=by
  unfold jI at e
  split at e
  · next ha=>
    cases e
    refine ⟨?_,?_,h.now⟩
    · have:=h.p0
      show 0≤s.p+l.length
      omega
    · show s.p+l.length≤65536
      rcases ha.2 with rfl|h2
      · have:=h.p1
        simpa using this
      · exact h2
  · cases e
theorem jU {r:Stp} {s s':CS} (h:CsOk s) (e:jH g la mine r s=some s'):CsOk s':=by
  unfold jH at e
  split at e
  · exact atsF_ok h e
  · cases e
theorem newJ_ok {xs:List Int} {n:Int} {s s':CS} (h:CsOk s) (e:bY xs n s=some s'):CsOk s':=by
  unfold bY at e
  split at e
  · cases e
  · exact rE (s:={s with js:=wX s.js n xs.length}) ⟨h.p0,h.p1,h.now⟩ e
theorem jQ {b:AN} {d:Int} {s s':CS} (h:CsOk s) (e:nW g b d s=some s'):CsOk s':=by
  unfold nW at e
  split at e
  · next hc=>exact atsF_ok (s:={s with p:=s.p+1}) ⟨by have:=h.p0;show 0≤s.p+1;omega,hc.2.1,h.now⟩ e
  · cases e
mutual
theorem uE :∀(b:AN) (d:Int) (s s':CS),CsOk s→xL g la mine b d s=some s'→CsOk s'
  | .mk k x xs n ns r a ko kc kids,d,s,s',h,e=>by
    rw [xL] at e
    obtain ⟨s1,h1,e⟩:=Option.bind_eq_some_iff.1 e
    have k1:=jQ h h1
    split at e
    · obtain ⟨s2,h2,e⟩:=Option.bind_eq_some_iff.1 e
      obtain ⟨s3,h3,e3⟩:=Option.bind_eq_some_iff.1 h2
      obtain ⟨s4,h4,rfl⟩:=Option.map_eq_some_iff.1 e
      exact (dS kids _ _ _ (rE (jU k1 h3) e3) h4).unb
    · split at e
      · obtain ⟨s2,h2,e⟩:=Option.bind_eq_some_iff.1 e
        exact joinF_ok kids _ _ _ _ _ (newJ_ok k1 h2) e
      · split at e
        · split at e
          · cases e;exact k1
          · cases e
        · split at e
          · split at e
            · exact gU kids _ _ _ k1 e
            · cases e
          · exact gU kids _ _ _ k1 e
theorem dS:∀(l:List AN) (d:Int) (s s':CS),CsOk s→tB g la mine l d s=some s'→CsOk s'
  | [],d,s,s',h,e=>by rw [tB] at e;cases e
  |b::l,d,s,s',h,e=>by rw [tB] at e;exact uE b d s s' h e
theorem joinF_ok:∀(l:List AN) (xs:List Int) (n d:Int) (s s':CS),CsOk s→pL g la mine l xs n d s=some s'→CsOk s'
  | [],xs,n,d,s,s',h,e=>by rw [pL] at e;cases e
  | b::l,xs,n,d,s,s',h,e=>by
    rw [pL] at e
    obtain ⟨s2,h2,e⟩:=Option.bind_eq_some_iff.1 e
    obtain ⟨s3,h3,rfl⟩:=Option.map_eq_some_iff.1 e
    exact (dS l _ _ _ (uE b _ _ _ h h2).unb.op h3).sh
theorem gU:∀(l:List AN) (d:Int) (s s':CS),CsOk s→wI g la mine l d s=some s'→CsOk s'
  | [],d,s,s',h,e=>by rw [wI] at e;cases e;exact h
  | b::l,d,s,s',h,e=>by
    rw [wI] at e
    obtain ⟨s2,h2,e⟩:=Option.bind_eq_some_iff.1 e
    exact gU l _ _ _ (uE b _ _ _ h h2) e
end
theorem kidsF_at {l:List AN} {i:Nat} {b:AN} (h:l[i]?=some b) (d:Int) (s:CS):wI g la mine (l.drop i) d s=(xL g la mine b d s).bind fun s=>wI g la mine (l.drop (i+1)) d s:=by
  obtain ⟨hi,rfl⟩:=List.getElem?_eq_some_iff.1 h
  rw [List.drop_eq_getElem_cons hi,wI]
end
def lamV (b3 b5:Nat):Value:=.func (.func 85) #[] #[.pointer (some (bat b3 0)),.pointer (some (bat b5 0))]
def BodyQ (w0:World) (c:Kk) (la:List Int) (bK bE bW bJ bO:Nat) (H:List It) (f:Option CS) (r:Value) (w':World):Prop:=
  (∃s':CS,f=some s'∧r= .bool true∧HS w0 noM (cb bK 127 (zU c (s').p)::sk bE (s').ever::sk bW (s').now::mpI bJ (s').js::sk bO (s').op::H) w')∨(f=none∧r= .bool false∧∃s':CS,HS w0 noM (cb bK 127 (zU c (s').p)::sk bE (s').ever::sk bW (s').now::mpI bJ (s').js::sk bO (s').op::H) w')
def BodyC (w0:World) (c:Kk) (la:List Int) (bK bE bW bJ bO:Nat) (b:AN):Prop:=∀(H:List It) (w:World) (d:Int) (s:CS),own 3 1 c.oA c.nA c.cA (flat Fw.encI la)∈H→CsOk s→1≤d→d≤32769→HS w0 noM (cb bK 127 (zU c (s).p)::sk bE (s).ever::sk bW (s).now::mpI bJ (s).js::sk bO (s).op::H) w→
  Ret Tryz.prog 45 #[.pointer (some (bat bK 0)),.agg (xF b).toArray,.int .i64 d] w (BodyQ w0 c la bK bE bW bJ bO H (xL c.g la c.caps b d s))
section
attribute [local irreducible] Code.wp wpList Calls Ex Op1 sat bat blk cb own Go.Fw.mp Go.Fw.mpO Go.Fw.mpI Go.Fw.mpE Go.Fw.itr HS Rd Ret wkD Hp Cl Cls Exit.then Exit.inBlock Exit.noGoto bodyPost Go.Fw.flat wk2 Go.Fw.all Go.Fw.owns wpOp
attribute [local irreducible] sk mpK sko mvO xI

theorem lam_spec (w0 w:World) (H:List It) (c:Kk) (la:List Int) (bK bE bW bJ bO b3 b5:Nat) (b:AN) (d:Int) (s:CS) (hb:BodyC w0 c la bK bE bW bJ bO b) (hm:own 3 1 c.oA c.nA c.cA (flat Fw.encI la)∈H)
    (h3:cb b3 124 [.pointer (some (bat bK 0))]∈H) (h5:cb b5 3 [.int .i64 d]∈H) (hs:CsOk s) (hd:1≤d) (hd2:d≤32768) (hH:HS w0 noM (cb bK 127 (zU c (s).p)::sk bE (s).ever::sk bW (s).now::mpI bJ (s).js::sk bO (s).op::H) w) :
    Ret Tryz.prog 85 #[.agg (xF b).toArray,.pointer (some (bat b3 0)),.pointer (some (bat b5 0))] w (fun r w'=>
      (∃s':CS,xL c.g la c.caps b (d+1) s=some s'∧r= .bool false∧HS w0 noM (cb bK 127 (zU c (s').p)::sk bE (s').ever::sk bW (s').now::mpI bJ (s').js::sk bO (s').op::H) w')∨(xL c.g la c.caps b (d+1) s=none∧r= .bool true∧∃s':CS,HS w0 noM (cb bK 127 (zU c (s').p)::sk bE (s').ever::sk bW (s').now::mpI bJ (s').js::sk bO (s').op::H) w')):=by
  obtain ⟨k,x,xs,n,ns,r,va,ko,kc,kids⟩:=b
  (refine ENT (N:=11) Tryz.func85 Tryz.ntmps85 ?_;intro a hA)
  repeat' (first|(refine XT ?_;apply XE;(first|(apply zC;rfl;exact fZ (.tail _ (.tail _ (.tail _ (.tail _ (.tail _ (.tail _ h3)))))) rfl)|(apply zC;rfl;exact fZ (.tail _ (.tail _ (.tail _ (.tail _ (.tail _ (.tail _ h5)))))) rfl));clear hA a;intro a hA)|(refine QT ?_;clear hA a;intro a hA)|(refine BT ?_;clear hA hH;rintro _ w ⟨bN,rfl,hH⟩ a hA)|refine CT ?_|fail)
  (refine zH hA rfl rfl (by decide) (zA rfl rfl rfl (hb (cb bN 70 (xF (.mk k x xs n ns r va ko kc kids))::H) _ (d+1) s (.tail _ hm) hs (by omega) (by omega) (hH.perm PMT))) ?_;clear hA hH)
  rintro _ w (⟨s',he,rfl,hH⟩| ⟨he,rfl,s',hH⟩) a hA
  · repeat' (first|(refine QT ?_;clear hA a;intro a hA)|refine CT ?_|fail)
    exact rt1 (.inl rfl) rfl hA rfl (.inl ⟨s',he,rfl,hH.rm 5⟩)
  · repeat' (first|(refine QT ?_;clear hA a;intro a hA)|refine CT ?_|fail)
    exact rt1 (.inl rfl) rfl hA rfl (.inr ⟨he,rfl,s',hH.rm 5⟩)
theorem aJ (w0 w:World) (H:List It) (c:Kk) (la:List Int) (bK bE bW bJ bO b3 b5:Nat) (v:Vec AN) (d:Int) (s:CS) (hR:RdV w0 xF v) (hb:∀b∈v.l,BodyC w0 c la bK bE bW bJ bO b) (hl:v.l.length≤17592186044416) (hm:own 3 1 c.oA c.nA c.cA (flat Fw.encI la)∈H)
    (h3:cb b3 124 [.pointer (some (bat bK 0))]∈H) (h5:cb b5 3 [.int .i64 d]∈H) (hs:CsOk s) (hd:1≤d) (hd2:d≤32768) (hH:HS w0 noM (cb bK 127 (zU c (s).p)::sk bE (s).ever::sk bW (s).now::mpI bJ (s).js::sk bO (s).op::H) w) :
    Ret Tryz.prog 113 #[.slice v.o v.l.length v.c,lamV b3 b5] w (fun r w'=>
      (∃s':CS,wI c.g la c.caps v.l (d+1) s=some s'∧r= .int .i64 (-1)∧HS w0 noM (cb bK 127 (zU c (s').p)::sk bE (s').ever::sk bW (s').now::mpI bJ (s').js::sk bO (s').op::H) w')∨(wI c.g la c.caps v.l (d+1) s=none∧∃n:Nat,r= .int .i64 n∧∃s':CS,HS w0 noM (cb bK 127 (zU c (s').p)::sk bE (s').ever::sk bW (s').now::mpI bJ (s').js::sk bO (s').op::H) w')):=by
  have hle:=hR.le
  have hsp:Sp v.o v.l.length:=hR.1.sp (sz:=11) (zF wN _) (by omega)
  (refine ENT (N:=19) Tryz.func113 Tryz.ntmps113 ?_;intro a hA)
  repeat' (first|(refine QT ?_;clear hA a;intro a hA)|refine CT ?_|fail)
  refine yK (S:=Nat × CS) (fun t a w=>(t.1≤v.l.length∧CsOk t.2∧wI c.g la c.caps v.l (d+1) s=wI c.g la c.caps (v.l.drop t.1) (d+1) t.2)∧HS w0 noM (cb bK 127 (zU c (t.2).p)::sk bE (t.2).ever::sk bW (t.2).now::mpI bJ (t.2).js::sk bO (t.2).op::H) w∧Sl 19 [(8,.int .i64 t.1),(7,.int .i64 v.l.length),(1,lamV b3 b5),(0,.slice v.o v.l.length v.c)] a) (fun t=>v.l.length - t.1)
    (fun a w=>∃s':CS,wI c.g la c.caps v.l (d+1) s=some s'∧HS w0 noM (cb bK 127 (zU c (s').p)::sk bE (s').ever::sk bW (s').now::mpI bJ (s').js::sk bO (s').op::H) w∧Sl 19 [] a) (0,s) ⟨⟨Nat.zero_le _,hs,rfl⟩,hH,(hA.sub SBT)⟩ ?_ ?_
  · clear hA hH hs
    rintro ⟨i,t⟩ a w ⟨⟨hi,hs,heq⟩,hH,hA⟩
    dsimp only at hi hs heq hH hA ⊢
    by_cases hlt:i<v.l.length
    rotate_left
    · obtain rfl:i=v.l.length:=by omega
      rw [List.drop_length,wI] at heq
      repeat' (first|(refine QT ?_;clear hA a;intro a hA)|refine CT ?_|(refine DT ?_ ?_<;>intro hc<;>try (exfalso;omega))|fail)
      exact ⟨_,heq,hH,(hA.sub SBT)⟩
    obtain ⟨x,hx⟩:∃x,v.l[i]?=some x:=⟨_,List.getElem?_eq_getElem hlt⟩
    have hvs:=yA wN hx
    have hbx:=hb x (List.mem_of_getElem? hx)
    rw [kidsF_at hx] at heq
    obtain ⟨k,x1,xs,n,ns,r,va,ko,kc,kids⟩:=x
    repeat' (first|(refine XT ?_;apply XE;(first|(apply zE;rfl;rfl;omega;exact hsp)|(apply zG (vs:=xF (.mk k x1 xs n ns r va ko kc kids));rfl;rfl;exact yV hR.1 id hvs));clear hA a;intro a hA)|(refine QT ?_;clear hA a;intro a hA)|refine CT ?_|(refine DT ?_ ?_<;>intro hc<;>try (exfalso;omega))|fail)
    (refine zH hA rfl rfl (by decide) (zA rfl rfl rfl (lam_spec w0 _ H c la bK bE bW bJ bO b3 b5 _ d t hbx hm h3 h5 hs hd hd2 hH)) ?_;clear hA hH)
    rintro _ w (⟨s',he,rfl,hH⟩| ⟨he,rfl,s',hH⟩) a hA
    · rw [he,Option.bind_some] at heq
      repeat' (first|(refine QT ?_;clear hA a;intro a hA)|refine CT ?_|fail)
      exact ⟨(i+1,s'),⟨⟨hlt,uE _ _ _ _ hs he,heq⟩,hH,(hA.sub SBT)⟩,by dsimp only;omega⟩
    · rw [he,Option.bind_none] at heq
      repeat' (first|(refine QT ?_;clear hA a;intro a hA)|refine CT ?_|fail)
      exact rt1 (.inl rfl) rfl hA rfl (.inr ⟨heq,i,rfl,s',hH⟩)
  clear hA hH
  rintro a w ⟨s',hq,hH,hA⟩
  repeat' (first|(refine QT ?_;clear hA a;intro a hA)|refine CT ?_|fail)
  exact rt1 (.inl rfl) rfl hA rfl (.inl ⟨s',hq,rfl,hH⟩)
theorem jF (w0 w:World) (H:List It) (c:Kk) (la:List Int) (bK bE bW bJ bO b3 b5:Nat) (v:Vec AN) (d:Int) (s:CS) (hR:RdV w0 xF v) (hb:∀b∈v.l,BodyC w0 c la bK bE bW bJ bO b) (hl:v.l.length≤17592186044416) (hm:own 3 1 c.oA c.nA c.cA (flat Fw.encI la)∈H)
    (h3:cb b3 124 [.pointer (some (bat bK 0))]∈H) (h5:cb b5 3 [.int .i64 d]∈H) (hs:CsOk s) (hd:1≤d) (hd2:d≤32768) (hH:HS w0 noM (cb bK 127 (zU c (s).p)::sk bE (s).ever::sk bW (s).now::mpI bJ (s).js::sk bO (s).op::H) w) :
    Ret Tryz.prog 84 #[.slice v.o v.l.length v.c,lamV b3 b5] w (fun r w'=>
      (∃s':CS,wI c.g la c.caps v.l (d+1) s=some s'∧r= .bool false∧HS w0 noM (cb bK 127 (zU c (s').p)::sk bE (s').ever::sk bW (s').now::mpI bJ (s').js::sk bO (s').op::H) w')∨(wI c.g la c.caps v.l (d+1) s=none∧r= .bool true∧∃s':CS,HS w0 noM (cb bK 127 (zU c (s').p)::sk bE (s').ever::sk bW (s').now::mpI bJ (s').js::sk bO (s').op::H) w')):=by
  (refine ENT (N:=9) Tryz.func84 Tryz.ntmps84 ?_;intro a hA)
  repeat' (first|(refine QT ?_;clear hA a;intro a hA)|refine CT ?_|fail)
  (refine zH hA rfl rfl (by decide) (zA rfl rfl rfl (aJ w0 _ H c la bK bE bW bJ bO b3 b5 v d s hR hb hl hm h3 h5 hs hd hd2 hH)) ?_;clear hA hH)
  rintro _ w (⟨s',he,rfl,hH⟩| ⟨he,n,rfl,s',hH⟩) a hA
  · repeat' (first|(refine QT ?_;clear hA a;intro a hA)|refine CT ?_|fail)
    exact rt1 (.inl rfl) rfl hA rfl (.inl ⟨s',he,rfl,hH⟩)
  · repeat' (first|(refine QT ?_;clear hA a;intro a hA)|refine CT ?_|fail)
    exact rt1 (.inl rfl) rfl hA rfl (.inr ⟨he,by rw [decide_eq_true (by omega)],s',hH⟩)
end
theorem bL {l:List AN} {i:Nat} (h:i<l.length):∃b,l[i]?=some b:=⟨_,List.getElem?_eq_getElem h⟩
theorem firstF_at {g:Grs} {la:List Int} {mine d:Int} {l:List AN} {b:AN} {s:CS} (h:l[0]?=some b):tB g la mine l d s=xL g la mine b d s:=by
  match l,h with
  |b'::l,h=>cases h;rw [tB]
theorem joinF_at {g:Grs} {la:List Int} {mine d n:Int} {l:List AN} {b b':AN} {s:CS} {xs:List Int} (h:l[0]?=some b) (h2:l[1]?=some b'):pL g la mine l xs n d s=(xL g la mine b d s).bind fun s=>(xL g la mine b' d (kB n (tX xs s))).map (shF n):=by
  match l,h,h2 with
  |b1::b2::l,h,h2=>cases h;cases h2;rw [pL];simp only [tB]
section
attribute [local irreducible] Code.wp wpList Calls Ex Op1 sat bat blk cb own Go.Fw.mp Go.Fw.mpO Go.Fw.mpI Go.Fw.mpE Go.Fw.itr HS Rd Ret wkD Hp Cl Cls Exit.then Exit.inBlock Exit.noGoto bodyPost Go.Fw.flat wk2 Go.Fw.all Go.Fw.owns wpOp
attribute [local irreducible] sk mpK sko mvO xI

theorem joinN_spec (w0 w:World) (H:List It) (c:Kk) (la:List Int) (bK bE bW bJ bO:Nat) (he:c.e=some bE) (hc:c.n=some bW) (hj:c.j=some bJ) (ho:c.o=some bO) (k x n:Int) (xs ns:Vec Int) (r:Stp) (va:Vec Atm) (ko:Option Addr) (kc:Nat) (kids:List AN)
    (h1:RdV w0 Fw.encI xs∧xs.l.length≤17592186044416) (h6:RdV w0 xF ⟨ko,kc,kids⟩) (hk2:kids.length=2) (hb:∀b∈kids,BodyC w0 c la bK bE bW bJ bO b) (d:Int) (s:CS) (hm:own 3 1 c.oA c.nA c.cA (flat Fw.encI la)∈H) (hs:CsOk s) (hd:1≤d) (hd2:d≤32768)
    (hH:HS w0 noM (cb bK 127 (zU c s.p)::sk bE s.ever::sk bW s.now::mpI bJ s.js::sk bO s.op::H) w) :
    Ret Tryz.prog 83 #[.pointer (some (bat bK 0)),.agg (xF (.mk k x xs n ns r va ko kc kids)).toArray,.int .i64 d] w (BodyQ w0 c la bK bE bW bJ bO H ((bY xs.l n s).bind fun s=>pL c.g la c.caps kids xs.l n (d+1) s)):=by
  obtain ⟨oP,nP,cP,g,oA,nA,cA,caps,e,n0,j,o⟩:=c
  obtain rfl:n0=some bW:=hc
  obtain rfl:e=some bE:=he
  obtain rfl:j=some bJ:=hj
  obtain rfl:o=some bO:=ho
  have hxl:=h1.2
  obtain ⟨b1,hx1⟩:=bL (l:=kids) (i:=0) (by omega)
  obtain ⟨b2,hx2⟩:=bL (l:=kids) (i:=1) (by omega)
  simp only [joinF_at hx1 hx2]
  have hb1:=hb b1 (List.mem_of_getElem? hx1)
  have hb2:=hb b2 (List.mem_of_getElem? hx2)
  have hvs1:=yA wN hx1
  have hvs2:=yA wN hx2
  have hsp:Sp ko kids.length:=h6.1.sp (sz:=11) (zF wN _) (by omega)
  (refine ENT (N:=71) Tryz.func83 Tryz.ntmps83 ?_;intro a hA)
  repeat refine CT ?_
  (refine BT ?_;clear hA hH;rintro _ w ⟨b4,rfl,hH⟩ a hA)
  replace hH:HS w0 noM ((cb bK 127 (zU ⟨oP,nP,cP,g,oA,nA,cA,caps,some bE,some bW,some bJ,some bO⟩ (s).p)::sk bE (s).ever::sk bW (s).now::mpI bJ (s).js::sk bO (s).op::cb b4 70 (xF (.mk k x xs n ns r va ko kc kids))::H)) w:=hH.perm PMT
  repeat' (first|(refine QT ?_;clear hA a;intro a hA)|refine CT ?_|fail)
  (refine zQ [(0,1),(1,1),(2,1),(3,1),(4,1),(5,1),(6,1),(7,1),(8,1),(9,1),(10,1),(11,1)] mixed (by decide +kernel) hH ?_;replace hH:=hH.drew)
  repeat' (first|(refine QT ?_;clear hA a;intro a hA)|refine CT ?_|(refine DT ?_ ?_<;>intro hc<;>try (exfalso;omega))|fail)
  · have hJ:bY xs.l n s=none:=if_pos (by assumption)
    rw [hJ]
    exact rt1 (.inl rfl) rfl hA rfl (.inr ⟨rfl,rfl,s,hH.rm 5⟩)
  have hJ:bY xs.l n s=sF xs.l {s with js:=wX s.js n xs.l.length}:=if_neg (by simp only [*];decide)
  rw [hJ]
  (refine zK [(0,1),(1,1),(2,1),(3,1),(4,1),(5,1),(6,1),(7,1),(8,1)] [9] mixed (by decide +kernel) hH ?_;replace hH:=hH.drew)
  repeat' (first|(refine QT ?_;clear hA a;intro a hA)|refine CT ?_|fail)
  (refine zX hA rfl rfl rfl (rU rfl rfl rfl hH (by (repeat constructor))) ?_;clear hH;rintro _ w hH)
  have hs1:CsOk {s with js:=wX s.js n xs.l.length}:=⟨hs.p0,hs.p1,hs.now⟩
  replace hH:HS w0 noM ((cb bK 127 (zU ⟨oP,nP,cP,g,oA,nA,cA,caps,some bE,some bW,some bJ,some bO⟩ ({s with js:=wX s.js n xs.l.length}).p)::sk bE ({s with js:=wX s.js n xs.l.length}).ever::sk bW ({s with js:=wX s.js n xs.l.length}).now::mpI bJ ({s with js:=wX s.js n xs.l.length}).js::sk bO ({s with js:=wX s.js n xs.l.length}).op::cb b4 70 (xF (.mk k x xs n ns r va ko kc kids))::H)) w:=hH
  obtain ⟨s1,hs1e⟩:∃t:CS,t={s with js:=wX s.js n xs.l.length}:=⟨_,rfl⟩
  rw [←hs1e] at hs1 hH ⊢
  clear hs1e hJ
  repeat' (first|(refine QT ?_;clear hA a;intro a hA)|refine CT ?_|fail)
  (refine zH hA rfl rfl (by decide) (zA rfl rfl rfl (eF w0 _ (mpI bJ s1.js::sk bO s1.op::cb b4 70 (xF (.mk k x xs n ns r va ko kc kids))::H) ⟨oP,nP,cP,g,oA,nA,cA,caps,some bE,some bW,some bJ,some bO⟩ bK bE bW s1.p s1.ever s1.now xs rfl rfl hH (fun _ _ _ hw=>hw.rd h1.1.1 id) hxl hs1.now)) ?_;clear hA hH)
  rintro _ w (⟨q,hq,rfl,hH⟩| ⟨hq,rfl,es',ks',hH⟩) a hA
  rotate_left
  · have hF:sF xs.l s1=none:=by unfold sF;rw [hq];rfl
    rw [hF]
    repeat' (first|(refine GT ?_ ?_<;>intro hg<;>clear hA a<;>intro a hA<;>(first|exact FA|replace hg:=dTr hg|replace hg:=dFa hg|skip))|(refine QT ?_;clear hA a;intro a hA)|refine CT ?_|fail)
    exact rt1 (.inl rfl) rfl hA rfl (.inr ⟨rfl,rfl,{s1 with ever:=es',now:=ks'},hH.rm 5⟩)
  have hF:sF xs.l s1=some {s1 with ever:=q.1,now:=q.2}:=by unfold sF;rw [hq];rfl
  have hs2:=rE hs1 hF
  rw [hF,Option.bind_some]
  replace hH:HS w0 noM ((cb bK 127 (zU ⟨oP,nP,cP,g,oA,nA,cA,caps,some bE,some bW,some bJ,some bO⟩ ({s1 with ever:=q.1,now:=q.2}).p)::sk bE ({s1 with ever:=q.1,now:=q.2}).ever::sk bW ({s1 with ever:=q.1,now:=q.2}).now::mpI bJ ({s1 with ever:=q.1,now:=q.2}).js::sk bO ({s1 with ever:=q.1,now:=q.2}).op::cb b4 70 (xF (.mk k x xs n ns r va ko kc kids))::H)) w:=hH
  obtain ⟨s2,hs2e⟩:∃t:CS,t={s1 with ever:=q.1,now:=q.2}:=⟨_,rfl⟩
  rw [←hs2e] at hs2 hH ⊢
  clear hF hs2e hq
  obtain ⟨k',x',xs',n',ns',r',va',ko',kc',kids'⟩:=b1
  repeat' (first|(refine GT ?_ ?_<;>intro hg<;>clear hA a<;>intro a hA<;>(first|exact FA|replace hg:=dTr hg|replace hg:=dFa hg|skip))|(refine XT ?_;apply XE;(first|(apply zD;rfl;rfl;omega;omega;exact hsp)|(apply zG (vs:=xF (.mk k' x' xs' n' ns' r' va' ko' kc' kids'));rfl;rfl;exact yV h6.1 id hvs1));clear hA a;intro a hA)|(refine QT ?_;clear hA a;intro a hA)|fail)
  (refine zH hA rfl rfl (by decide) (zA rfl rfl rfl (hb1 (cb b4 70 (xF (.mk k x xs n ns r va ko kc kids))::H) _ (d+1) s2 (.tail _ hm) hs2 (by omega) (by omega) hH)) ?_;clear hA hH)
  rintro _ w (⟨s3,he,rfl,hH⟩| ⟨he,rfl,s3,hH⟩) a hA
  rotate_left
  · have he':xL g la caps (.mk k' x' xs' n' ns' r' va' ko' kc' kids') (d+1) s2=none:=he
    rw [he']
    repeat' (first|(refine QT ?_;clear hA a;intro a hA)|refine CT ?_|fail)
    exact rt1 (.inl rfl) rfl hA rfl (.inr ⟨rfl,rfl,s3,hH.rm 5⟩)
  have he':xL g la caps (.mk k' x' xs' n' ns' r' va' ko' kc' kids') (d+1) s2=some s3:=he
  have hs3:=uE _ _ _ _ hs2 he'
  rw [he',Option.bind_some]
  repeat' (first|(refine QT ?_;clear hA a;intro a hA)|refine CT ?_|fail)
  (refine zH hA rfl rfl (by decide) (zA rfl rfl rfl (eX w0 _ (sk bE s3.ever::mpI bJ s3.js::sk bO s3.op::cb b4 70 (xF (.mk k x xs n ns r va ko kc kids))::H) ⟨oP,nP,cP,g,oA,nA,cA,caps,some bE,some bW,some bJ,some bO⟩ bK bW s3.p s3.now xs rfl (hH.perm PMT) (fun _ _ hw=>hw.rd h1.1.1 id) hxl)) ?_;clear hA hH)
  rintro _ w ⟨rfl,hH⟩ a hA
  replace hH:HS w0 noM ((cb bK 127 (zU ⟨oP,nP,cP,g,oA,nA,cA,caps,some bE,some bW,some bJ,some bO⟩ (tX xs.l s3).p)::sk bE (tX xs.l s3).ever::sk bW (tX xs.l s3).now::mpI bJ (tX xs.l s3).js::sk bO (tX xs.l s3).op::cb b4 70 (xF (.mk k x xs n ns r va ko kc kids))::H)) w:=hH.perm PMT
  repeat' (first|(refine QT ?_;clear hA a;intro a hA)|refine CT ?_|fail)
  (refine zK [(0,1),(1,1),(2,1),(3,1),(4,1),(5,1)] [6] mixed (by decide +kernel) hH ?_;replace hH:=hH.drew)
  repeat' (first|(refine QT ?_;clear hA a;intro a hA)|refine CT ?_|fail)
  (refine zX hA rfl rfl rfl (mR rfl rfl rfl hH (by (repeat constructor))) ?_;clear hH;rintro _ w hH)
  have hs4:CsOk (kB n (tX xs.l s3)):=hs3.unb.op
  replace hH:HS w0 noM ((cb bK 127 (zU ⟨oP,nP,cP,g,oA,nA,cA,caps,some bE,some bW,some bJ,some bO⟩ (kB n (tX xs.l s3)).p)::sk bE (kB n (tX xs.l s3)).ever::sk bW (kB n (tX xs.l s3)).now::mpI bJ (kB n (tX xs.l s3)).js::sk bO (kB n (tX xs.l s3)).op::cb b4 70 (xF (.mk k x xs n ns r va ko kc kids))::H)) w:=hH
  obtain ⟨s4,hs4e⟩:∃t:CS,t=kB n (tX xs.l s3):=⟨_,rfl⟩
  rw [←hs4e] at hs4 hH ⊢
  clear hs4e
  obtain ⟨k2,x2,xs2,n2,ns2,r2,va2,ko2,kc2,kids2⟩:=b2
  repeat' (first|(refine XT ?_;apply XE;(first|(apply zD;rfl;rfl;omega;omega;exact hsp)|(apply zG (vs:=xF (.mk k2 x2 xs2 n2 ns2 r2 va2 ko2 kc2 kids2));rfl;rfl;exact yV h6.1 id hvs2));clear hA a;intro a hA)|(refine QT ?_;clear hA a;intro a hA)|refine CT ?_|fail)
  (refine zH hA rfl rfl (by decide) (zA rfl rfl rfl (hb2 (cb b4 70 (xF (.mk k x xs n ns r va ko kc kids))::H) _ (d+1) s4 (.tail _ hm) hs4 (by omega) (by omega) hH)) ?_;clear hA hH)
  rintro _ w (⟨s5,he2,rfl,hH⟩| ⟨he2,rfl,s5,hH⟩) a hA
  · have he3:xL g la caps (.mk k2 x2 xs2 n2 ns2 r2 va2 ko2 kc2 kids2) (d+1) s4=some s5:=he2
    rw [he3]
    repeat' (first|(refine QT ?_;clear hA a;intro a hA)|refine CT ?_|fail)
    (refine zK [(0,1),(1,1),(2,1),(3,1),(4,1),(5,1)] [6] mixed (by decide +kernel) hH ?_;replace hH:=hH.drew)
    repeat' (first|(refine QT ?_;clear hA a;intro a hA)|refine CT ?_|fail)
    (refine zX hA rfl rfl rfl (bI rfl rfl hH (by (repeat constructor))) ?_;clear hH;rintro _ w ⟨rfl,hH⟩)
    repeat' (first|(refine QT ?_;clear hA a;intro a hA)|refine CT ?_|fail)
    exact rt1 (.inl rfl) rfl hA rfl (.inl ⟨shF n s5,rfl,rfl,hH.rm 5⟩)
  · have he3:xL g la caps (.mk k2 x2 xs2 n2 ns2 r2 va2 ko2 kc2 kids2) (d+1) s4=none:=he2
    rw [he3]
    repeat' (first|(refine QT ?_;clear hA a;intro a hA)|refine CT ?_|fail)
    (refine zK [(0,1),(1,1),(2,1),(3,1),(4,1),(5,1)] [6] mixed (by decide +kernel) hH ?_;replace hH:=hH.drew)
    repeat' (first|(refine QT ?_;clear hA a;intro a hA)|refine CT ?_|fail)
    (refine zX hA rfl rfl rfl (bI rfl rfl hH (by (repeat constructor))) ?_;clear hH;rintro _ w ⟨rfl,hH⟩)
    repeat' (first|(refine QT ?_;clear hA a;intro a hA)|refine CT ?_|fail)
    exact rt1 (.inl rfl) rfl hA rfl (.inr ⟨rfl,rfl,shF n s5,hH.rm 5⟩)
end
theorem pre_no {g:Grs} {la:List Int} {mine:Int} {k x n d:Int} {xs ns:Vec Int} {r:Stp} {va:Vec Atm} {ko:Option Addr} {kc:Nat} {kids:List AN} {s:CS}
    (h:¬((1≤k∧k≤8)∧s.p+1≤65536∧d≤32768∧ShpP k x xs.l n ns.l r va.l kids.length)):xL g la mine (.mk k x xs n ns r va ko kc kids) d s=none:=by
  rw [xL]
  have:nW g (.mk k x xs n ns r va ko kc kids) d s=none:=if_neg h
  rw [this];rfl
theorem pre_at {g:Grs} {la:List Int} {mine:Int} {k x n d:Int} {xs ns:Vec Int} {r:Stp} {va:Vec Atm} {ko:Option Addr} {kc:Nat} {kids:List AN} {s:CS}
    (ha:¬jJ g s.now (s.p+1) va.l):xL g la mine (.mk k x xs n ns r va ko kc kids) d s=none:=by
  rw [xL]
  have:nW g (.mk k x xs n ns r va ko kc kids) d s=none:=by
    unfold nW
    split
    · exact if_neg ha
    · rfl
  rw [this];rfl
theorem pre_yes {g:Grs} {la:List Int} {mine:Int} {k x n d:Int} {xs ns:Vec Int} {r:Stp} {va:Vec Atm} {ko:Option Addr} {kc:Nat} {kids:List AN} {s:CS}
    (h:(1≤k∧k≤8)∧s.p+1≤65536∧d≤32768∧ShpP k x xs.l n ns.l r va.l kids.length) (ha:jJ g s.now (s.p+1) va.l):nW g (.mk k x xs n ns r va ko kc kids) d s=some {s with p:=s.p+1+va.l.length}:=
  (if_pos h).trans (if_pos ha)
theorem len_nil {α:Type} {l:List α} (h:l=[]):l.length=0:=by rw [h];rfl
theorem sZ {P:Program} {ops:Array Oper} {Q:Exit→Act→World→Prop} (R:Act→World→Prop):∀(n:Nat) {ls:List Oper} {a:Act} {w:World},wpList P ops (Exit.then R Q) (ls.take n) a w→(∀a w,R a w→wpList P ops Q (ls.drop n) a w)→wpList P ops Q ls a w:=by
  intro n ls
  induction ls generalizing n with
  | nil=>
    intro a w h k
    rw [List.take_nil] at h
    rw [List.drop_nil] at k
    exact k a w h
  | cons o rest ih=>
    intro a w h k
    cases n with
    |zero=>exact k a w h
    |succ n=>
    rw [List.take_succ_cons] at h
    rw [List.drop_succ_cons] at k
    unfold wpList at h ⊢
    split
    · rename_i hw
      rw [if_pos hw] at h
      rcases h with h| ⟨h1,h2⟩
      · refine .inl (Oper.wp_mono (K:=wpList P ops (Exit.then R Q) (rest.take n)) (fun a w h=>ih n h k) ?_)
        unfold Oper.wp at *
        generalize (execOp a.eval o).run P w=r at *
        cases r with
        |ok n w'=>cases n<;>simp only [Oper.upon] at h ⊢<;>exact h
        |halt x w'=>cases x<;>simp only [Oper.upon] at h ⊢<;>exact h
      · exact .inr ⟨h1,by obtain ⟨a',w3,h3⟩:=h2;exact ⟨a',w3,h3⟩⟩
    · rename_i hw
      rw [if_neg hw] at h
      exact ih n h k
open Classical in
noncomputable def restF (g:Grs) (la:List Int) (mine:Int) (k x:Int) (xs:List Int) (n:Int) (ns:List Int) (r:Stp) (a:List Atm) (kids:List AN) (d:Int) (s:CS):Option CS:=
  if k=1 then ((jH g la mine r s).bind (sF [x])).bind fun s=>(tB g la mine kids (d+1) s).map (tX [x])
  else if k=7 then (bY xs n s).bind fun s=>pL g la mine kids xs n (d+1) s
  else if k=8 then (if n∈s.op∧(a.length:Int)=(lkI s.js n).getD 0 then some s else none)
  else if k=6 then (if upP ns∧ns≠[]∧kids.length=ns.length+1 then wI g la mine kids (d+1) s else none)
  else wI g la mine kids (d+1) s
theorem bodyF_pre {g:Grs} {la:List Int} {mine:Int} {k x n d:Int} {xs ns:Vec Int} {r:Stp} {va:Vec Atm} {ko:Option Addr} {kc:Nat} {kids:List AN} {s s1:CS} (h:nW g (.mk k x xs n ns r va ko kc kids) d s=some s1) :
    xL g la mine (.mk k x xs n ns r va ko kc kids) d s=restF g la mine k x xs.l n ns.l r va.l kids d s1:=by
  rw [xL,h,Option.bind_some]
  rfl
theorem sub_R {k x n:Int} {xs ns:Vec Int} {r:Stp} {va:Vec Atm} {ko:Option Addr} {kc:Nat} {kids:List AN} (i:Nat) (v:Value) (h:(yG r)[i]?=some v):(xF (.mk k x xs n ns r va ko kc kids))[0+5+i]?=some v:=by
  rw [Nat.zero_add]
  match i,h with
  |0,h=>exact h
  |1,h=>exact h
  |2,h=>exact h
  |3,h=>exact h
  |n+4,h=>exact absurd h (by simp [yG])
theorem cU {w0 w:World} {M:Nat→Prop} {A B C D E x y z:It} {H:List It} (h:HS w0 M (A::B::C::D::E::x::y::z::H) w):HS w0 M [x,y,z] w:=HS.left (H1:=[x,y,z]) (H2:=H) (h.rm 0 |>.rm 0 |>.rm 0 |>.rm 0 |>.rm 0)
theorem lQ {w0 w:World} {M:Nat→Prop} {A B C D E F x y z:It} {H:List It} (h:HS w0 M (A::B::C::D::E::F::x::y::z::H) w):HS w0 M [x,y,z] w:=HS.left (H1:=[x,y,z]) (H2:=H) (h.rm 0 |>.rm 0 |>.rm 0 |>.rm 0 |>.rm 0 |>.rm 0)
theorem own1_rd {w0 w:World} {M:Nat→Prop} {L:List It} {o:Option Addr} {x:Int} (hw:HS w0 M L w) (hm:own 3 1 o 1 1 [.int .i64 x]∈L):Rd w o (flat Fw.encI [x]):=hw.own_rd hm
theorem st_reg {P:Program} {Q:Exit→Act→World→Prop} {c:Code} {a:Act} {w:World} (R:Act→World→Prop) (h:c.wp P (Exit.then R Q) a w) (k:∀a w,R a w→Q .normal a w):c.wp P Q a w:=
  Code.wp_mono (fun e a w q=>by cases e<;>first|exact k a w q|exact q) h
section
attribute [local irreducible] Code.wp wpList Calls Ex Op1 sat bat blk cb own Go.Fw.mp Go.Fw.mpO Go.Fw.mpI Go.Fw.mpE Go.Fw.itr HS Rd Ret wkD Hp Cl Cls Exit.then Exit.inBlock Exit.noGoto bodyPost Go.Fw.flat wk2 Go.Fw.all Go.Fw.owns wpOp
attribute [local irreducible] sk mpK sko mvO xI

def badP (h:Sh) (x n:Int) (xs ns:List Int) (r:Stp) (a kids:Nat):Prop:=
  ((((((h.x=false∧x≠0)∨(h.xs=false∧0<(xs.length:Int)))∨(h.n=false∧n≠0))∨(h.ns=false∧0<(ns.length:Int)))∨(h.r=false∧(r.k≠0∨r.n≠0∨0<(r.ns.l.length:Int)+r.a.l.length)))∨(0≤h.a∧(a:Int)≠h.a))∨(0≤h.k∧(kids:Int)≠h.k)
theorem shK_ok {k:Int} {sh:Sh} {ok:Bool} (h:(sh,ok)=shK k):ok=true↔1≤k∧k≤8:=by
  have:ok=(shK k).2:=by rw [←h]
  rw [this]
  unfold shK
  (repeat' split)<;>simp<;>omega
theorem nC {α:Type} {l:List α}:l=[]↔(l.length:Int)=0:=by
  rw [←List.length_eq_zero_iff];omega
theorem shp_iff {k x n:Int} {xs ns:List Int} {r:Stp} {a:List Atm} {kids:Nat}:ShpP k x xs n ns r a kids↔
    (k=1∨x=0)∧(k=7∨(xs.length:Int)=0)∧(k=7∨k=8∨n=0)∧(k=6∨(ns.length:Int)=0)∧(k=1∨(r.k=0∧r.n=0∧(r.ns.l.length:Int)=0∧(r.a.l.length:Int)=0))∧
    ((k=2∨k=4∨k=5∨k=6→a.length=1)∧(k=3→a.length=2)∧(k=1∨k=7→(a.length:Int)=0))∧((k=1→kids=1)∧(k=5∨k=7→kids=2)∧(k=2∨k=3∨k=4∨k=8→kids=0)):=by
  constructor
  · rintro ⟨h1,h2,h3,h4,h5,h6,h7⟩
    rw [nC] at h2 h4 h6
    rw [nC,nC] at h5
    exact ⟨h1,h2,h3,h4,h5,h6,h7⟩
  · rintro ⟨h1,h2,h3,h4,h5,h6,h7⟩
    rw [←nC] at h2 h4 h6
    rw [←nC,←nC] at h5
    exact ⟨h1,h2,h3,h4,h5,h6,h7⟩
theorem shK_bad {k x n:Int} {xs ns:List Int} {r:Stp} {a:List Atm} {kids:Nat} {sh:Sh} (h:(sh,true)=shK k):badP sh x n xs ns r a.length kids↔¬ShpP k x xs n ns r a kids:=by
  rw [shp_iff]
  have hk:1≤k∧k≤8:=(shK_ok h).1 rfl
  have:sh=(shK k).1:=by rw [←h]
  subst this
  have h8:k=1∨k=2∨k=3∨k=4∨k=5∨k=6∨k=7∨k=8:=by omega
  unfold badP
  have p1:0≤(xs.length:Int):=by omega
  have p2:0≤(ns.length:Int):=by omega
  have p3:0≤(r.ns.l.length:Int):=by omega
  have p4:0≤(r.a.l.length:Int):=by omega
  generalize (xs.length:Int)=q1 at *
  generalize (ns.length:Int)=q2 at *
  generalize (r.ns.l.length:Int)=q3 at *
  generalize (r.a.l.length:Int)=q4 at *
  generalize a.length=q5 at *
  rcases h8 with rfl|rfl|rfl|rfl|rfl|rfl|rfl|rfl<;>simp [shK]<;>omega
theorem gY {A:Prop} (h:false=true↔A):¬A:=fun ha=>by cases h.2 ha
theorem lS {b:Bool} {A C:Prop} (hA:¬A) (h:b=true↔C):b=true↔A∨C:=h.trans ⟨.inr,fun h=>h.elim (fun h=>absurd h hA) id⟩
theorem bodyN_spec (w0:World) (c:Kk) (la:List Int) (bK bE bW bJ bO:Nat) (he:c.e=some bE) (hc:c.n=some bW) (hj:c.j=some bJ) (ho:c.o=some bO) (k x n:Int) (xs ns:Vec Int) (r:Stp) (va:Vec Atm) (ko:Option Addr) (kc:Nat) (kids:List AN)
    (hR:RdN w0 (.mk k x xs n ns r va ko kc kids)) (hb:∀b∈kids,BodyC w0 c la bK bE bW bJ bO b) (hn:c.nA=la.length) (hla:la.length≤9223372036854775807):BodyC w0 c la bK bE bW bJ bO (.mk k x xs n ns r va ko kc kids):=by
  intro H w d s hm hs hd hd2 hH
  obtain ⟨oP,nP,cP,g,oA,nA,cA,caps,e,n0,j,o⟩:=c
  obtain rfl:n0=some bW:=hc
  obtain rfl:e=some bE:=he
  obtain rfl:j=some bJ:=hj
  obtain rfl:o=some bO:=ho
  cases hR with
  |mk h1 h2 h3 h4 h5 h6 h7=>
  have hp0:=hs.p0
  have hp1:=hs.p1
  obtain ⟨h1l,h2l,h3l,h4l,h5l,h6l⟩:xs.l.length≤17592186044416∧ns.l.length≤17592186044416∧r.ns.l.length≤17592186044416∧r.a.l.length≤17592186044416∧va.l.length≤17592186044416∧kids.length≤17592186044416:=⟨h1.2,h2.2,h3.2,h4.2,h5.2,h6.2⟩
  obtain ⟨⟨sh,ok⟩,hsh⟩:∃q,q=shK k:=⟨_,rfl⟩
  (refine ENT (N:=241) Tryz.func45 Tryz.ntmps45 ?_;intro a hA)
  repeat refine CT ?_
  (refine BT ?_;clear hA hH;rintro _ w ⟨b3,rfl,hH⟩ a hA)
  (refine BT ?_;clear hA hH;rintro _ w ⟨b4,rfl,hH⟩ a hA)
  (refine BT ?_;clear hA hH;rintro _ w ⟨b5,rfl,hH⟩ a hA)
  repeat' (first|(refine QT ?_;clear hA a;intro a hA)|refine CT ?_|fail)
  have hS:=cY w k
  rw [←hsh] at hS
  (refine zH hA rfl rfl (by decide) (zA rfl rfl rfl (hS)) ?_;clear hA;rintro _ w ⟨rfl,hk⟩ a hA;replace hH:=hH.keep hk;clear hk)
  refine st_cut (fun a w=>∃b7,HS w0 noM (cb b7 183 (uB sh)::cb b5 3 [.int .i64 d]::cb b4 70 (xF (.mk k x xs n ns r va ko kc kids))::cb b3 124 [.pointer (some (bat bK 0))]::cb bK 127 (zU ⟨oP,nP,cP,g,oA,nA,cA,caps,some bE,some bW,some bJ,some bO⟩ (s.p))::sk bE s.ever::sk bW s.now::mpI bJ s.js::sk bO s.op::H) w∧Sl 241 [(8,.bool ok),(7,.pointer (some (bat b7 0))),(6,.bool false),(5,.pointer (some (bat b5 0))),(4,.pointer (some (bat b4 0))),(3,.pointer (some (bat b3 0)))] a) ?_ ?_
  · repeat' (first|(refine QT ?_;clear hA a;intro a hA)|(refine BT ?_;clear hA hH;rintro _ w ⟨bN,rfl,hH⟩ a hA)|(refine SAT (uB _) hA hH ?_;clear hH;intro w hH)|refine CT ?_|fail)
    exact ⟨_,hH,(hA.sub SBT)⟩
  clear hA hH a w hS
  rintro a w ⟨b7,hH,hA⟩
  repeat refine CT ?_
  refine st_cut (fun a w=>HS w0 noM (cb b7 183 (uB sh)::cb b5 3 [.int .i64 d]::cb b4 70 (xF (.mk k x xs n ns r va ko kc kids))::cb b3 124 [.pointer (some (bat bK 0))]::cb bK 127 (zU ⟨oP,nP,cP,g,oA,nA,cA,caps,some bE,some bW,some bJ,some bO⟩ (s.p+1))::sk bE s.ever::sk bW s.now::mpI bJ s.js::sk bO s.op::H) w∧Sl 241 [(8,.bool ok),(7,.pointer (some (bat b7 0))),(6,.bool false),(5,.pointer (some (bat b5 0))),(4,.pointer (some (bat b4 0))),(3,.pointer (some (bat b3 0)))] a) ?_ ?_
  · repeat' (first|(refine QT ?_;clear hA a;intro a hA)|(apply zO hA rfl rfl;apply zB (cs':=zU ⟨oP,nP,cP,g,oA,nA,cA,caps,some bE,some bW,some bJ,some bO⟩ (s.p+1));rfl;rfl;rfl;exact hH;(repeat constructor);clear hH;rintro _ w hH)|refine CT ?_|fail)
    exact ⟨hH,(hA.sub SBT)⟩
  clear hA hH a w
  rintro a w ⟨hH,hA⟩
  repeat refine CT ?_
  refine oW (fun a w=>(ok=true∧s.p+1≤65536∧d≤32768)∧HS w0 noM (cb b7 183 (uB sh)::cb b5 3 [.int .i64 d]::cb b4 70 (xF (.mk k x xs n ns r va ko kc kids))::cb b3 124 [.pointer (some (bat bK 0))]::cb bK 127 (zU ⟨oP,nP,cP,g,oA,nA,cA,caps,some bE,some bW,some bJ,some bO⟩ (s.p+1))::sk bE s.ever::sk bW s.now::mpI bJ s.js::sk bO s.op::H) w∧Sl 241 [(7,.pointer (some (bat b7 0))),(6,.bool false),(5,.pointer (some (bat b5 0))),(4,.pointer (some (bat b4 0))),(3,.pointer (some (bat b3 0)))] a) ?_ ?_
  · have hok:=shK_ok hsh
    cases ok with
    | false=>
      repeat' (first|(refine GT ?_ ?_<;>intro hg<;>clear hA a<;>intro a hA<;>(first|exact FA|replace hg:=dTr hg|replace hg:=dFa hg|skip))|(refine QT ?_;clear hA a;intro a hA)|refine CT ?_|fail)
      exact rt1 (.inl rfl) rfl hA rfl (.inr ⟨pre_no (fun h=>absurd (hok.2 h.1) (by decide)),rfl,{s with p:=s.p+1},hH.rm 0 |>.rm 0 |>.rm 0 |>.rm 0⟩)
    | true=>
      repeat' (first|(refine GT ?_ ?_<;>intro hg<;>clear hA a<;>intro a hA<;>(first|exact FA|replace hg:=dTr hg|replace hg:=dFa hg|skip))|(refine QT ?_;clear hA a;intro a hA)|refine CT ?_|(refine DT ?_ ?_<;>intro hc<;>try (exfalso;omega))|fail)
      all_goals first
        |exact ⟨⟨rfl,by omega,by omega⟩,hH,(hA.sub SBT)⟩
        |exact rt1 (.inl rfl) rfl hA rfl (.inr ⟨pre_no (fun h=>by have h1:=h.2.1;have h2:=h.2.2.1;omega),rfl,{s with p:=s.p+1},hH.rm 0 |>.rm 0 |>.rm 0 |>.rm 0⟩)
  clear hA hH a w
  rintro a w ⟨⟨hok,hpp,hdd⟩,hH,hA⟩
  subst hok
  have hbad:=shK_bad (x:=x) (n:=n) (xs:=xs.l) (ns:=ns.l) (r:=r) (a:=va.l) (kids:=kids.length) hsh
  repeat refine CT ?_
  obtain ⟨fx,fxs,fn,fns,fr,am,km⟩:=sh
  have hsh0:=hsh
  clear hsh
  (refine sZ (fun a w=>∃b:Bool,(b=true↔fx=false∧x≠0)∧HS w0 noM (cb b7 183 (uB ⟨fx,fxs,fn,fns,fr,am,km⟩)::cb b5 3 [.int .i64 d]::cb b4 70 (xF (.mk k x xs n ns r va ko kc kids))::cb b3 124 [.pointer (some (bat bK 0))]::cb bK 127 (zU ⟨oP,nP,cP,g,oA,nA,cA,caps,some bE,some bW,some bJ,some bO⟩ (s.p+1))::sk bE s.ever::sk bW s.now::mpI bJ s.js::sk bO s.op::H) w∧Sl 241 [(45,.bool b),(7,.pointer (some (bat b7 0))),(6,.bool false),(5,.pointer (some (bat b5 0))),(4,.pointer (some (bat b4 0))),(3,.pointer (some (bat b3 0)))] a) 8 ?_ ?_)
  · cases fx
    all_goals (repeat' (first|(refine GT ?_ ?_<;>intro hg<;>clear hA a<;>intro a hA<;>(first|exact FA|replace hg:=dTr hg|replace hg:=dFa hg|skip))|(refine QT ?_;clear hA a;intro a hA)|refine CT ?_|fail))
    all_goals (refine ⟨_,?_,hH,(hA.sub SBT)⟩;clear hA hH;first|exact absurd (by assumption:(!true)=true) (by decide)|exact absurd (by assumption:(!false)=false) (by decide)|exact ⟨fun h=>⟨rfl,dTr h⟩,fun h=>decide_eq_true h.2⟩|exact iff_of_false (fun h=>by cases h) (fun h=>by cases h.1))
  clear hA hH a w
  rintro a w ⟨b,hbq,hH,hA⟩
  (refine sZ (fun a w=>∃b:Bool,(b=true↔(fx=false∧x≠0)∨(fxs=false∧0<(xs.l.length:Int)))∧HS w0 noM (cb b7 183 (uB ⟨fx,fxs,fn,fns,fr,am,km⟩)::cb b5 3 [.int .i64 d]::cb b4 70 (xF (.mk k x xs n ns r va ko kc kids))::cb b3 124 [.pointer (some (bat bK 0))]::cb bK 127 (zU ⟨oP,nP,cP,g,oA,nA,cA,caps,some bE,some bW,some bJ,some bO⟩ (s.p+1))::sk bE s.ever::sk bW s.now::mpI bJ s.js::sk bO s.op::H) w∧Sl 241 [(56,.bool b),(7,.pointer (some (bat b7 0))),(6,.bool false),(5,.pointer (some (bat b5 0))),(4,.pointer (some (bat b4 0))),(3,.pointer (some (bat b3 0)))] a) 11 ?_ ?_)
  · cases b with
    | true=>
      repeat' (first|(refine GT ?_ ?_<;>intro hg<;>clear hA a<;>intro a hA<;>(first|exact FA|replace hg:=dTr hg|replace hg:=dFa hg|skip))|(refine QT ?_;clear hA a;intro a hA)|refine CT ?_|fail)
      exact ⟨true,iff_of_true rfl (.inl (hbq.1 rfl)),hH,(hA.sub SBT)⟩
    | false=>
      have hB:=gY hbq
      cases fxs
      all_goals (repeat' (first|(refine GT ?_ ?_<;>intro hg<;>clear hA a<;>intro a hA<;>(first|exact FA|replace hg:=dTr hg|replace hg:=dFa hg|skip))|(refine QT ?_;clear hA a;intro a hA)|refine CT ?_|fail))
      all_goals (refine ⟨_,lS hB ?_,hH,(hA.sub SBT)⟩;clear hA hH hB;first|exact absurd (by assumption:(!true)=true) (by decide)|exact absurd (by assumption:(!false)=false) (by decide)|exact ⟨fun h=>⟨rfl,dTr h⟩,fun h=>decide_eq_true h.2⟩|exact ⟨fun h=>⟨by omega,dTr h⟩,fun h=>decide_eq_true h.2⟩|exact iff_of_false Bool.false_ne_true (fun h=>absurd h.1 (by decide))|exact iff_of_false Bool.false_ne_true (fun h=>by have:=h.1;omega)|exact iff_of_true rfl ⟨rfl,by omega⟩|exact ⟨fun h=>⟨rfl,by have:=dTr h;omega⟩,fun h=>decide_eq_true (by have:=h.2;omega)⟩|(exfalso;dsimp only at *;omega))
  clear hA hH a w b hbq
  rintro a w ⟨b,hbq,hH,hA⟩
  (refine sZ (fun a w=>∃b:Bool,(b=true↔((fx=false∧x≠0)∨(fxs=false∧0<(xs.l.length:Int)))∨(fn=false∧n≠0))∧HS w0 noM (cb b7 183 (uB ⟨fx,fxs,fn,fns,fr,am,km⟩)::cb b5 3 [.int .i64 d]::cb b4 70 (xF (.mk k x xs n ns r va ko kc kids))::cb b3 124 [.pointer (some (bat bK 0))]::cb bK 127 (zU ⟨oP,nP,cP,g,oA,nA,cA,caps,some bE,some bW,some bJ,some bO⟩ (s.p+1))::sk bE s.ever::sk bW s.now::mpI bJ s.js::sk bO s.op::H) w∧Sl 241 [(66,.bool b),(7,.pointer (some (bat b7 0))),(6,.bool false),(5,.pointer (some (bat b5 0))),(4,.pointer (some (bat b4 0))),(3,.pointer (some (bat b3 0)))] a) 10 ?_ ?_)
  · cases b with
    | true=>
      repeat' (first|(refine GT ?_ ?_<;>intro hg<;>clear hA a<;>intro a hA<;>(first|exact FA|replace hg:=dTr hg|replace hg:=dFa hg|skip))|(refine QT ?_;clear hA a;intro a hA)|refine CT ?_|fail)
      exact ⟨true,iff_of_true rfl (.inl (hbq.1 rfl)),hH,(hA.sub SBT)⟩
    | false=>
      have hB:=gY hbq
      cases fn
      all_goals (repeat' (first|(refine GT ?_ ?_<;>intro hg<;>clear hA a<;>intro a hA<;>(first|exact FA|replace hg:=dTr hg|replace hg:=dFa hg|skip))|(refine QT ?_;clear hA a;intro a hA)|refine CT ?_|fail))
      all_goals (refine ⟨_,lS hB ?_,hH,(hA.sub SBT)⟩;clear hA hH hB;first|exact absurd (by assumption:(!true)=true) (by decide)|exact absurd (by assumption:(!false)=false) (by decide)|exact ⟨fun h=>⟨rfl,dTr h⟩,fun h=>decide_eq_true h.2⟩|exact ⟨fun h=>⟨by omega,dTr h⟩,fun h=>decide_eq_true h.2⟩|exact iff_of_false Bool.false_ne_true (fun h=>absurd h.1 (by decide))|exact iff_of_false Bool.false_ne_true (fun h=>by have:=h.1;omega)|exact iff_of_true rfl ⟨rfl,by omega⟩|exact ⟨fun h=>⟨rfl,by have:=dTr h;omega⟩,fun h=>decide_eq_true (by have:=h.2;omega)⟩|(exfalso;dsimp only at *;omega))
  clear hA hH a w b hbq
  rintro a w ⟨b,hbq,hH,hA⟩
  (refine sZ (fun a w=>∃b:Bool,(b=true↔(((fx=false∧x≠0)∨(fxs=false∧0<(xs.l.length:Int)))∨(fn=false∧n≠0))∨(fns=false∧0<(ns.l.length:Int)))∧HS w0 noM (cb b7 183 (uB ⟨fx,fxs,fn,fns,fr,am,km⟩)::cb b5 3 [.int .i64 d]::cb b4 70 (xF (.mk k x xs n ns r va ko kc kids))::cb b3 124 [.pointer (some (bat bK 0))]::cb bK 127 (zU ⟨oP,nP,cP,g,oA,nA,cA,caps,some bE,some bW,some bJ,some bO⟩ (s.p+1))::sk bE s.ever::sk bW s.now::mpI bJ s.js::sk bO s.op::H) w∧Sl 241 [(77,.bool b),(7,.pointer (some (bat b7 0))),(6,.bool false),(5,.pointer (some (bat b5 0))),(4,.pointer (some (bat b4 0))),(3,.pointer (some (bat b3 0)))] a) 11 ?_ ?_)
  · cases b with
    | true=>
      repeat' (first|(refine GT ?_ ?_<;>intro hg<;>clear hA a<;>intro a hA<;>(first|exact FA|replace hg:=dTr hg|replace hg:=dFa hg|skip))|(refine QT ?_;clear hA a;intro a hA)|refine CT ?_|fail)
      exact ⟨true,iff_of_true rfl (.inl (hbq.1 rfl)),hH,(hA.sub SBT)⟩
    | false=>
      have hB:=gY hbq
      cases fns
      all_goals (repeat' (first|(refine GT ?_ ?_<;>intro hg<;>clear hA a<;>intro a hA<;>(first|exact FA|replace hg:=dTr hg|replace hg:=dFa hg|skip))|(refine QT ?_;clear hA a;intro a hA)|refine CT ?_|fail))
      all_goals (refine ⟨_,lS hB ?_,hH,(hA.sub SBT)⟩;clear hA hH hB;first|exact absurd (by assumption:(!true)=true) (by decide)|exact absurd (by assumption:(!false)=false) (by decide)|exact ⟨fun h=>⟨rfl,dTr h⟩,fun h=>decide_eq_true h.2⟩|exact ⟨fun h=>⟨by omega,dTr h⟩,fun h=>decide_eq_true h.2⟩|exact iff_of_false Bool.false_ne_true (fun h=>absurd h.1 (by decide))|exact iff_of_false Bool.false_ne_true (fun h=>by have:=h.1;omega)|exact iff_of_true rfl ⟨rfl,by omega⟩|exact ⟨fun h=>⟨rfl,by have:=dTr h;omega⟩,fun h=>decide_eq_true (by have:=h.2;omega)⟩|(exfalso;dsimp only at *;omega))
  clear hA hH a w b hbq
  rintro a w ⟨b,hbq,hH,hA⟩
  (refine sZ (fun a w=>∃b:Bool,(b=true↔((((fx=false∧x≠0)∨(fxs=false∧0<(xs.l.length:Int)))∨(fn=false∧n≠0))∨(fns=false∧0<(ns.l.length:Int)))∨(fr=false∧(r.k≠0∨r.n≠0∨0<(r.ns.l.length:Int)+r.a.l.length)))∧HS w0 noM (cb b7 183 (uB ⟨fx,fxs,fn,fns,fr,am,km⟩)::cb b5 3 [.int .i64 d]::cb b4 70 (xF (.mk k x xs n ns r va ko kc kids))::cb b3 124 [.pointer (some (bat bK 0))]::cb bK 127 (zU ⟨oP,nP,cP,g,oA,nA,cA,caps,some bE,some bW,some bJ,some bO⟩ (s.p+1))::sk bE s.ever::sk bW s.now::mpI bJ s.js::sk bO s.op::H) w∧Sl 241 [(106,.bool b),(7,.pointer (some (bat b7 0))),(6,.bool false),(5,.pointer (some (bat b5 0))),(4,.pointer (some (bat b4 0))),(3,.pointer (some (bat b3 0)))] a) 29 ?_ ?_)
  · cases b with
    | true=>
      repeat' (first|(refine GT ?_ ?_<;>intro hg<;>clear hA a<;>intro a hA<;>(first|exact FA|replace hg:=dTr hg|replace hg:=dFa hg|skip))|(refine QT ?_;clear hA a;intro a hA)|refine CT ?_|fail)
      exact ⟨true,iff_of_true rfl (.inl (hbq.1 rfl)),hH,(hA.sub SBT)⟩
    | false=>
      have hB:=gY hbq
      cases fr
      all_goals (repeat' (first|(refine GT ?_ ?_<;>intro hg<;>clear hA a<;>intro a hA<;>(first|exact FA|replace hg:=dTr hg|replace hg:=dFa hg|skip))|(refine QT ?_;clear hA a;intro a hA)|refine CT ?_|fail))
      all_goals (refine ⟨_,lS hB ?_,hH,(hA.sub SBT)⟩;clear hA hH hB;first|exact absurd (by assumption:(!true)=true) (by decide)|exact absurd (by assumption:(!false)=false) (by decide)|exact ⟨fun h=>⟨rfl,dTr h⟩,fun h=>decide_eq_true h.2⟩|exact ⟨fun h=>⟨by omega,dTr h⟩,fun h=>decide_eq_true h.2⟩|exact iff_of_false Bool.false_ne_true (fun h=>absurd h.1 (by decide))|exact iff_of_false Bool.false_ne_true (fun h=>by have:=h.1;omega)|exact iff_of_true rfl ⟨rfl,by omega⟩|exact ⟨fun h=>⟨rfl,by have:=dTr h;omega⟩,fun h=>decide_eq_true (by have:=h.2;omega)⟩|(exfalso;dsimp only at *;omega))
  clear hA hH a w b hbq
  rintro a w ⟨b,hbq,hH,hA⟩
  (refine sZ (fun a w=>∃b:Bool,(b=true↔(((((fx=false∧x≠0)∨(fxs=false∧0<(xs.l.length:Int)))∨(fn=false∧n≠0))∨(fns=false∧0<(ns.l.length:Int)))∨(fr=false∧(r.k≠0∨r.n≠0∨0<(r.ns.l.length:Int)+r.a.l.length)))∨(0≤am∧(va.l.length:Int)≠am))∧HS w0 noM (cb b7 183 (uB ⟨fx,fxs,fn,fns,fr,am,km⟩)::cb b5 3 [.int .i64 d]::cb b4 70 (xF (.mk k x xs n ns r va ko kc kids))::cb b3 124 [.pointer (some (bat bK 0))]::cb bK 127 (zU ⟨oP,nP,cP,g,oA,nA,cA,caps,some bE,some bW,some bJ,some bO⟩ (s.p+1))::sk bE s.ever::sk bW s.now::mpI bJ s.js::sk bO s.op::H) w∧Sl 241 [(119,.bool b),(7,.pointer (some (bat b7 0))),(6,.bool false),(5,.pointer (some (bat b5 0))),(4,.pointer (some (bat b4 0))),(3,.pointer (some (bat b3 0)))] a) 13 ?_ ?_)
  · cases b with
    | true=>
      repeat' (first|(refine GT ?_ ?_<;>intro hg<;>clear hA a<;>intro a hA<;>(first|exact FA|replace hg:=dTr hg|replace hg:=dFa hg|skip))|(refine QT ?_;clear hA a;intro a hA)|refine CT ?_|fail)
      exact ⟨true,iff_of_true rfl (.inl (hbq.1 rfl)),hH,(hA.sub SBT)⟩
    | false=>
      have hB:=gY hbq
      by_cases hm0:0≤am
      all_goals (repeat' (first|(refine GT ?_ ?_<;>intro hg<;>clear hA a<;>intro a hA<;>(first|exact FA|replace hg:=dTr hg|replace hg:=dFa hg|skip))|(refine QT ?_;clear hA a;intro a hA)|refine CT ?_|fail))
      all_goals (refine ⟨_,lS hB ?_,hH,(hA.sub SBT)⟩;clear hA hH hB;first|exact absurd (by assumption:(!true)=true) (by decide)|exact absurd (by assumption:(!false)=false) (by decide)|exact ⟨fun h=>⟨rfl,dTr h⟩,fun h=>decide_eq_true h.2⟩|exact ⟨fun h=>⟨by omega,dTr h⟩,fun h=>decide_eq_true h.2⟩|exact iff_of_false Bool.false_ne_true (fun h=>absurd h.1 (by decide))|exact iff_of_false Bool.false_ne_true (fun h=>by have:=h.1;omega)|exact iff_of_true rfl ⟨rfl,by omega⟩|exact ⟨fun h=>⟨rfl,by have:=dTr h;omega⟩,fun h=>decide_eq_true (by have:=h.2;omega)⟩|(exfalso;dsimp only at *;omega))
  clear hA hH a w b hbq
  rintro a w ⟨b,hbq,hH,hA⟩
  (refine sZ (fun a w=>∃b:Bool,(b=true↔((((((fx=false∧x≠0)∨(fxs=false∧0<(xs.l.length:Int)))∨(fn=false∧n≠0))∨(fns=false∧0<(ns.l.length:Int)))∨(fr=false∧(r.k≠0∨r.n≠0∨0<(r.ns.l.length:Int)+r.a.l.length)))∨(0≤am∧(va.l.length:Int)≠am))∨(0≤km∧(kids.length:Int)≠km))∧HS w0 noM (cb b7 183 (uB ⟨fx,fxs,fn,fns,fr,am,km⟩)::cb b5 3 [.int .i64 d]::cb b4 70 (xF (.mk k x xs n ns r va ko kc kids))::cb b3 124 [.pointer (some (bat bK 0))]::cb bK 127 (zU ⟨oP,nP,cP,g,oA,nA,cA,caps,some bE,some bW,some bJ,some bO⟩ (s.p+1))::sk bE s.ever::sk bW s.now::mpI bJ s.js::sk bO s.op::H) w∧Sl 241 [(132,.bool b),(7,.pointer (some (bat b7 0))),(6,.bool false),(5,.pointer (some (bat b5 0))),(4,.pointer (some (bat b4 0))),(3,.pointer (some (bat b3 0)))] a) 13 ?_ ?_)
  · cases b with
    | true=>
      repeat' (first|(refine GT ?_ ?_<;>intro hg<;>clear hA a<;>intro a hA<;>(first|exact FA|replace hg:=dTr hg|replace hg:=dFa hg|skip))|(refine QT ?_;clear hA a;intro a hA)|refine CT ?_|fail)
      exact ⟨true,iff_of_true rfl (.inl (hbq.1 rfl)),hH,(hA.sub SBT)⟩
    | false=>
      have hB:=gY hbq
      by_cases hm0:0≤km
      all_goals (repeat' (first|(refine GT ?_ ?_<;>intro hg<;>clear hA a<;>intro a hA<;>(first|exact FA|replace hg:=dTr hg|replace hg:=dFa hg|skip))|(refine QT ?_;clear hA a;intro a hA)|refine CT ?_|fail))
      all_goals (refine ⟨_,lS hB ?_,hH,(hA.sub SBT)⟩;clear hA hH hB;first|exact absurd (by assumption:(!true)=true) (by decide)|exact absurd (by assumption:(!false)=false) (by decide)|exact ⟨fun h=>⟨rfl,dTr h⟩,fun h=>decide_eq_true h.2⟩|exact ⟨fun h=>⟨by omega,dTr h⟩,fun h=>decide_eq_true h.2⟩|exact iff_of_false Bool.false_ne_true (fun h=>absurd h.1 (by decide))|exact iff_of_false Bool.false_ne_true (fun h=>by have:=h.1;omega)|exact iff_of_true rfl ⟨rfl,by omega⟩|exact ⟨fun h=>⟨rfl,by have:=dTr h;omega⟩,fun h=>decide_eq_true (by have:=h.2;omega)⟩|(exfalso;dsimp only at *;omega))
  clear hA hH a w b hbq
  rintro a w ⟨b,hbq,hH,hA⟩
  have hbb:b=true↔¬ShpP k x xs.l n ns.l r va.l kids.length:=Iff.trans (b:=badP ⟨fx,fxs,fn,fns,fr,am,km⟩ x n xs.l ns.l r va.l.length kids.length) hbq hbad
  have hk8:=(shK_ok hsh0).1 rfl
  clear hbq hbad hsh0
  refine oW (fun a w=>(ShpP k x xs.l n ns.l r va.l kids.length∧jJ g s.now (s.p+1) va.l)∧HS w0 noM (cb b5 3 [.int .i64 d]::cb b4 70 (xF (.mk k x xs n ns r va ko kc kids))::cb b3 124 [.pointer (some (bat bK 0))]::cb bK 127 (zU ⟨oP,nP,cP,g,oA,nA,cA,caps,some bE,some bW,some bJ,some bO⟩ (s.p+1+va.l.length))::sk bE s.ever::sk bW s.now::mpI bJ s.js::sk bO s.op::H) w∧Sl 241 [(6,.bool false),(5,.pointer (some (bat b5 0))),(4,.pointer (some (bat b4 0))),(3,.pointer (some (bat b3 0)))] a) ?_ ?_
  · cases b with
    | true=>
      repeat' (first|(refine GT ?_ ?_<;>intro hg<;>clear hA a<;>intro a hA<;>(first|exact FA|replace hg:=dTr hg|replace hg:=dFa hg|skip))|(refine QT ?_;clear hA a;intro a hA)|refine CT ?_|fail)
      exact rt1 (.inl rfl) rfl hA rfl (.inr ⟨pre_no (fun h=>hbb.1 rfl h.2.2.2),rfl,{s with p:=s.p+1},hH.rm 0 |>.rm 0 |>.rm 0 |>.rm 0⟩)
    | false=>
      have hshp:ShpP k x xs.l n ns.l r va.l kids.length:=Classical.not_not.1 (gY hbb)
      repeat' (first|(refine GT ?_ ?_<;>intro hg<;>clear hA a<;>intro a hA<;>(first|exact FA|replace hg:=dTr hg|replace hg:=dFa hg|skip))|(refine QT ?_;clear hA a;intro a hA)|fail)
      (refine zH hA rfl rfl (by decide) (zA rfl rfl rfl (kY w0 _ (sk bE s.ever::mpI bJ s.js::sk bO s.op::cb b7 183 (uB ⟨fx,fxs,fn,fns,fr,am,km⟩)::cb b5 3 [.int .i64 d]::cb b4 70 (xF (.mk k x xs n ns r va ko kc kids))::cb b3 124 [.pointer (some (bat bK 0))]::H) ⟨oP,nP,cP,g,oA,nA,cA,caps,some bE,some bW,some bJ,some bO⟩ bK bW (s.p+1) s.now va rfl (hH.perm PMT) h5.1 (by omega) (by omega))) ?_;clear hA hH)
      rintro _ w (⟨hat,rfl,hH⟩| ⟨hat,rfl,p',hH⟩) a hA
      · repeat' (first|(refine QT ?_;clear hA a;intro a hA)|refine CT ?_|fail)
        exact ⟨⟨hshp,hat⟩,(hH.rm 5).perm PMT,(hA.sub SBT)⟩
      · repeat' (first|(refine QT ?_;clear hA a;intro a hA)|refine CT ?_|fail)
        exact rt1 (.inl rfl) rfl hA rfl (.inr ⟨pre_at hat,rfl,{s with p:=p'},(hH.rm 5 |>.rm 5 |>.rm 5 |>.rm 5).perm PMT⟩)
  clear hA hH a w hbb b
  rintro a w ⟨⟨hshp,hat⟩,hH,hA⟩
  have hpre:=pre_yes (la:=la) (mine:=caps) (ko:=ko) (kc:=kc) ⟨hk8,hpp,hdd,hshp⟩ hat
  have hs1:=jQ hs hpre
  have hbF:=bodyF_pre (la:=la) (mine:=caps) hpre
  obtain ⟨s1,hs1e⟩:∃t:CS,t={s with p:=s.p+1+va.l.length}:=⟨_,rfl⟩
  rw [←hs1e] at hbF hs1
  have hH1:HS w0 noM (cb bK 127 (zU ⟨oP,nP,cP,g,oA,nA,cA,caps,some bE,some bW,some bJ,some bO⟩ (s1).p)::sk bE (s1).ever::sk bW (s1).now::mpI bJ (s1).js::sk bO (s1).op::cb b5 3 [.int .i64 d]::cb b4 70 (xF (.mk k x xs n ns r va ko kc kids))::cb b3 124 [.pointer (some (bat bK 0))]::H) w:=by rw [hs1e];exact hH.perm PMT
  clear hH
  have hH:=hH1
  clear hH1 hs1e hpre
  repeat refine CT ?_
  by_cases hk1:k=1
  · have hkl:=hshp.kids.1 hk1
    obtain ⟨b1,hx⟩:=bL (l:=kids) (i:=0) (by omega)
    rw [restF,if_pos hk1] at hbF
    simp only [firstF_at hx] at hbF
    have hb1:=hb b1 (List.mem_of_getElem? hx)
    have hvs:=yA wN hx
    have hsp:Sp ko kids.length:=h6.1.1.sp (sz:=11) (zF wN _) (by omega)
    obtain ⟨inn,hinn⟩:∃t,t=((jH g la caps r s1).bind (sF [x])).bind (xL g la caps b1 (d+1)):=⟨_,rfl⟩
    have hbF2:xL g la caps (.mk k x xs n ns r va ko kc kids) d s=inn.map (tX [x]):=by rw [hbF,hinn,Option.map_bind];rfl
    clear hbF
    repeat' (first|(refine QT ?_;clear hA a;intro a hA)|refine CT ?_|(refine DT ?_ ?_<;>intro hc<;>try (exfalso;omega))|fail)
    refine st_reg (fun a w=>∃(b:Bool) (s2:CS),(b=true→inn=some s2)∧(b=false→inn=none)∧HS w0 noM (cb bK 127 (zU ⟨oP,nP,cP,g,oA,nA,cA,caps,some bE,some bW,some bJ,some bO⟩ (s2).p)::sk bE (s2).ever::sk bW (s2).now::mpI bJ (s2).js::sk bO (s2).op::cb b5 3 [.int .i64 d]::cb b4 70 (xF (.mk k x xs n ns r va ko kc kids))::cb b3 124 [.pointer (some (bat bK 0))]::H) w∧Sl 241 [(9,.bool b),(6,.bool false),(5,.pointer (some (bat b5 0))),(4,.pointer (some (bat b4 0))),(3,.pointer (some (bat b3 0)))] a) ?_ ?_
    · (refine zQ (H:=[_,_,_]) [(0,1),(1,1),(2,1),(3,0),(4,1),(5,1),(6,1),(7,1),(8,0),(9,0),(10,1),(11,1),(12,1),(13,1),(14,1),(15,1),(16,1),(17,1),(18,1),(19,0),(20,1),(21,1)] mixed (by decide +kernel) (cU hH) ?_;replace hH:=hH.drew)
      repeat' (first|(refine XT ?_;apply XE;(first|(apply zG (vs:=yG r);rfl;rfl;exact rW MEMT sub_R));clear hA a;intro a hA)|(refine QT ?_;clear hA a;intro a hA)|fail)
      (refine yO hA rfl rfl rfl (by decide) (zA rfl rfl rfl (stepN_spec w0 _ (sk bE s1.ever::mpI bJ s1.js::sk bO s1.op::cb b5 3 [.int .i64 d]::cb b4 70 (xF (.mk k x xs n ns r va ko kc kids))::cb b3 124 [.pointer (some (bat bK 0))]::H) ⟨oP,nP,cP,g,oA,nA,cA,caps,some bE,some bW,some bJ,some bO⟩ bK bW s1.p s1.now la r rfl (hH.perm PMT) (.tail _ (.tail _ (.tail _ (.tail _ (.tail _ (.tail _ hm)))))) hn hla h3.1 h4.1 hs1.p0 hs1.p1)) ?_;clear hA hH)
      rintro _ w (⟨hst,rfl,hH⟩| ⟨hst,rfl,p',hH⟩)
      rotate_left
      · have hF:jH g la caps r s1=none:=by
          unfold jH
          split
          · next h1=>exact if_neg fun h2=>hst ⟨h1,h2⟩
          · rfl
        rw [hF] at hinn
        replace hH:HS w0 noM (cb bK 127 (zU ⟨oP,nP,cP,g,oA,nA,cA,caps,some bE,some bW,some bJ,some bO⟩ ({s1 with p:=p'}).p)::sk bE ({s1 with p:=p'}).ever::sk bW ({s1 with p:=p'}).now::mpI bJ ({s1 with p:=p'}).js::sk bO ({s1 with p:=p'}).op::cb b5 3 [.int .i64 d]::cb b4 70 (xF (.mk k x xs n ns r va ko kc kids))::cb b3 124 [.pointer (some (bat bK 0))]::H) w:=hH.perm PMT
        refine ⟨cU hH,?_⟩
        intro a hA
        repeat' (first|(refine GT ?_ ?_<;>intro hg<;>clear hA a<;>intro a hA<;>(first|exact FA|replace hg:=dTr hg|replace hg:=dFa hg|skip))|(refine QT ?_;clear hA a;intro a hA)|refine CT ?_|(refine kI hA rfl rfl rfl (by decide) (cU hH) ?_;clear hA a;intro a hA)|fail)
        exact ⟨false,_,fun h=>(by cases h),fun _=>hinn,hH,(hA.sub SBT)⟩
      have hF:jH g la caps r s1=some {s1 with p:=s1.p+r.a.l.length}:=(if_pos hst.1).trans (if_pos hst.2)
      rw [hF,Option.bind_some] at hinn
      replace hH:HS w0 noM (cb bK 127 (zU ⟨oP,nP,cP,g,oA,nA,cA,caps,some bE,some bW,some bJ,some bO⟩ ({s1 with p:=s1.p+r.a.l.length}).p)::sk bE ({s1 with p:=s1.p+r.a.l.length}).ever::sk bW ({s1 with p:=s1.p+r.a.l.length}).now::mpI bJ ({s1 with p:=s1.p+r.a.l.length}).js::sk bO ({s1 with p:=s1.p+r.a.l.length}).op::cb b5 3 [.int .i64 d]::cb b4 70 (xF (.mk k x xs n ns r va ko kc kids))::cb b3 124 [.pointer (some (bat bK 0))]::H) w:=hH.perm PMT
      have hs2:=jU hs1 hF
      obtain ⟨s2,hs2e⟩:∃t:CS,t={s1 with p:=s1.p+r.a.l.length}:=⟨_,rfl⟩
      rw [←hs2e] at hinn hs2 hH
      clear hF hs2e
      refine ⟨cU hH,?_⟩
      intro a hA
      repeat' (first|(refine GT ?_ ?_<;>intro hg<;>clear hA a<;>intro a hA<;>(first|exact FA|replace hg:=dTr hg|replace hg:=dFa hg|skip))|(refine QT ?_;clear hA a;intro a hA)|(refine DLT ?_;clear hA hH;rintro _ w ⟨oN,rfl,hH⟩;refine ⟨STT,?_⟩;intro a hA)|fail)
      (apply yO hA rfl rfl rfl (by decide);apply zZ;rfl;rfl;exact CATST;rfl;rfl;rfl;exact hH;clear hA hH;rintro _ w ⟨oN,rfl,hH⟩;refine ⟨lQ hH,?_⟩;intro a hA)
      replace hH:HS w0 noM ((cb bK 127 (zU ⟨oP,nP,cP,g,oA,nA,cA,caps,some bE,some bW,some bJ,some bO⟩ (s2).p)::sk bE (s2).ever::sk bW (s2).now::mpI bJ (s2).js::sk bO (s2).op::own 3 1 oN 1 1 [.int .i64 x]::cb b5 3 [.int .i64 d]::cb b4 70 (xF (.mk k x xs n ns r va ko kc kids))::cb b3 124 [.pointer (some (bat bK 0))]::H)) w:=hH.perm PMT
      (refine yO hA rfl rfl rfl (by decide) (zA rfl rfl rfl (eF w0 _ (mpI bJ s2.js::sk bO s2.op::own 3 1 oN 1 1 [.int .i64 x]::cb b5 3 [.int .i64 d]::cb b4 70 (xF (.mk k x xs n ns r va ko kc kids))::cb b3 124 [.pointer (some (bat bK 0))]::H) ⟨oP,nP,cP,g,oA,nA,cA,caps,some bE,some bW,some bJ,some bO⟩ bK bE bW s2.p s2.ever s2.now ⟨oN,1,[x]⟩ rfl rfl hH (fun _ _ _ hw=>own1_rd (x:=x) hw (by exact MEMT)) (Nat.le_of_ble_eq_true rfl) hs2.now)) ?_;clear hA hH)
      rintro _ w (⟨q,hq,rfl,hH⟩| ⟨hq,rfl,es',ks',hH⟩)
      rotate_left
      · have hF:sF [x] s2=none:=by unfold sF;rw [hq];rfl
        rw [hF] at hinn
        replace hH:HS w0 noM ((cb bK 127 (zU ⟨oP,nP,cP,g,oA,nA,cA,caps,some bE,some bW,some bJ,some bO⟩ ({s2 with ever:=es',now:=ks'}).p)::sk bE ({s2 with ever:=es',now:=ks'}).ever::sk bW ({s2 with ever:=es',now:=ks'}).now::mpI bJ ({s2 with ever:=es',now:=ks'}).js::sk bO ({s2 with ever:=es',now:=ks'}).op::own 3 1 oN 1 1 [.int .i64 x]::cb b5 3 [.int .i64 d]::cb b4 70 (xF (.mk k x xs n ns r va ko kc kids))::cb b3 124 [.pointer (some (bat bK 0))]::H)) w:=hH
        refine ⟨lQ hH,?_⟩
        intro a hA
        repeat' (first|(refine GT ?_ ?_<;>intro hg<;>clear hA a<;>intro a hA<;>(first|exact FA|replace hg:=dTr hg|replace hg:=dFa hg|skip))|(refine QT ?_;clear hA a;intro a hA)|refine CT ?_|(refine kI hA rfl rfl rfl (by decide) (lQ hH) ?_;clear hA a;intro a hA)|fail)
        exact ⟨false,_,fun h=>(by cases h),fun _=>hinn,hH.rm 5,(hA.sub SBT)⟩
      have hF:sF [x] s2=some {s2 with ever:=q.1,now:=q.2}:=by unfold sF;rw [hq];rfl
      rw [hF,Option.bind_some] at hinn
      have hs3:=rE hs2 hF
      replace hH:HS w0 noM ((cb bK 127 (zU ⟨oP,nP,cP,g,oA,nA,cA,caps,some bE,some bW,some bJ,some bO⟩ ({s2 with ever:=q.1,now:=q.2}).p)::sk bE ({s2 with ever:=q.1,now:=q.2}).ever::sk bW ({s2 with ever:=q.1,now:=q.2}).now::mpI bJ ({s2 with ever:=q.1,now:=q.2}).js::sk bO ({s2 with ever:=q.1,now:=q.2}).op::own 3 1 oN 1 1 [.int .i64 x]::cb b5 3 [.int .i64 d]::cb b4 70 (xF (.mk k x xs n ns r va ko kc kids))::cb b3 124 [.pointer (some (bat bK 0))]::H)) w:=hH
      obtain ⟨s3,hs3e⟩:∃t:CS,t={s2 with ever:=q.1,now:=q.2}:=⟨_,rfl⟩
      rw [←hs3e] at hinn hs3 hH
      clear hF hs3e hq
      refine ⟨lQ hH,?_⟩
      intro a hA
      obtain ⟨k',x',xs',n',ns',r',va',ko',kc',kids'⟩:=b1
      repeat' (first|(refine GT ?_ ?_<;>intro hg<;>clear hA a<;>intro a hA<;>(first|exact FA|replace hg:=dTr hg|replace hg:=dFa hg|skip))|(refine XT ?_;apply XE;(first|(apply zD;rfl;rfl;omega;omega;exact hsp)|(apply zG (vs:=xF (.mk k' x' xs' n' ns' r' va' ko' kc' kids'));rfl;rfl;exact yV h6.1.1 id hvs));clear hA a;intro a hA)|(refine QT ?_;clear hA a;intro a hA)|fail)
      (refine yO hA rfl rfl rfl (by decide) (zA rfl rfl rfl (hb1 (own 3 1 oN 1 1 [.int .i64 x]::cb b5 3 [.int .i64 d]::cb b4 70 (xF (.mk k x xs n ns r va ko kc kids))::cb b3 124 [.pointer (some (bat bK 0))]::H) _ (d+1) s3 (.tail _ (.tail _ (.tail _ (.tail _ hm)))) hs3 (by omega) (by omega) hH)) ?_;clear hA hH)
      rintro _ w (⟨s4,he,rfl,hH⟩| ⟨he,rfl,s4,hH⟩)
      · refine ⟨lQ hH,?_⟩
        intro a hA
        repeat' (first|(refine QT ?_;clear hA a;intro a hA)|refine CT ?_|fail)
        exact ⟨true,s4,fun _=>hinn.trans he,fun h=>(by cases h),hH.rm 5,(hA.sub SBT)⟩
      · refine ⟨lQ hH,?_⟩
        intro a hA
        repeat' (first|(refine QT ?_;clear hA a;intro a hA)|refine CT ?_|fail)
        exact ⟨false,s4,fun h=>(by cases h),fun _=>hinn.trans he,hH.rm 5,(hA.sub SBT)⟩
    clear hA hH hinn a w
    rintro a w ⟨b,s2,hbt,hbf,hH,hA⟩
    repeat' (first|(refine QT ?_;clear hA a;intro a hA)|(refine LT ?_;clear hA hH;rintro _ w ⟨oN,rfl,hH⟩ a hA)|refine CT ?_|fail)
    (refine zH hA rfl rfl (by decide) (zA rfl rfl rfl (eX w0 _ (sk bE s2.ever::mpI bJ s2.js::sk bO s2.op::own 3 1 oN 1 1 [.int .i64 x]::cb b5 3 [.int .i64 d]::cb b4 70 (xF (.mk k x xs n ns r va ko kc kids))::cb b3 124 [.pointer (some (bat bK 0))]::H) ⟨oP,nP,cP,g,oA,nA,cA,caps,some bE,some bW,some bJ,some bO⟩ bK bW s2.p s2.now ⟨oN,1,[x]⟩ rfl (hH.perm PMT) (fun _ _ hw=>own1_rd (x:=x) hw (by exact MEMT)) (Nat.le_of_ble_eq_true rfl))) ?_;clear hA hH)
    rintro _ w ⟨rfl,hH⟩ a hA
    replace hH:HS w0 noM (cb bK 127 (zU ⟨oP,nP,cP,g,oA,nA,cA,caps,some bE,some bW,some bJ,some bO⟩ (tX [x] s2).p)::sk bE (tX [x] s2).ever::sk bW (tX [x] s2).now::mpI bJ (tX [x] s2).js::sk bO (tX [x] s2).op::H) w:=(hH.rm 5 |>.rm 5 |>.rm 5 |>.rm 5).perm PMT
    cases b with
    | true=>
      repeat' (first|(refine QT ?_;clear hA a;intro a hA)|refine CT ?_|fail)
      exact rt1 (.inl rfl) rfl hA rfl (.inl ⟨_,hbF2.trans (by rw [hbt rfl];rfl),rfl,hH⟩)
    | false=>
      repeat' (first|(refine QT ?_;clear hA a;intro a hA)|refine CT ?_|fail)
      exact rt1 (.inl rfl) rfl hA rfl (.inr ⟨hbF2.trans (by rw [hbf rfl];rfl),rfl,_,hH⟩)
  rw [restF,if_neg hk1] at hbF
  refine oW (fun a w=>xL g la caps (.mk k x xs n ns r va ko kc kids) d s=wI g la caps kids (d+1) s1∧HS w0 noM (cb bK 127 (zU ⟨oP,nP,cP,g,oA,nA,cA,caps,some bE,some bW,some bJ,some bO⟩ (s1).p)::sk bE (s1).ever::sk bW (s1).now::mpI bJ (s1).js::sk bO (s1).op::cb b5 3 [.int .i64 d]::cb b4 70 (xF (.mk k x xs n ns r va ko kc kids))::cb b3 124 [.pointer (some (bat bK 0))]::H) w∧Sl 241 [(6,.bool false),(5,.pointer (some (bat b5 0))),(4,.pointer (some (bat b4 0))),(3,.pointer (some (bat b3 0)))] a) ?_ ?_
  · by_cases hk7:k=7
    · rw [if_pos hk7] at hbF
      repeat' (first|(refine QT ?_;clear hA a;intro a hA)|refine CT ?_|(refine DT ?_ ?_<;>intro hc<;>try (exfalso;omega))|fail)
      (refine zH hA rfl rfl (by decide) (zA rfl rfl rfl (joinN_spec w0 _ (cb b5 3 [.int .i64 d]::cb b4 70 (xF (.mk k x xs n ns r va ko kc kids))::cb b3 124 [.pointer (some (bat bK 0))]::H) ⟨oP,nP,cP,g,oA,nA,cA,caps,some bE,some bW,some bJ,some bO⟩ la bK bE bW bJ bO rfl rfl rfl rfl k x n xs ns r va ko kc kids h1 h6.1 (hshp.kids.2.1 (.inr hk7)) hb d s1 (.tail _ (.tail _ (.tail _ hm))) hs1 hd hdd hH)) ?_;clear hA hH)
      rintro _ w (⟨s',he,rfl,hH⟩| ⟨he,rfl,s',hH⟩) a hA
      · repeat' (first|(refine QT ?_;clear hA a;intro a hA)|refine CT ?_|fail)
        exact rt1 (.inl rfl) rfl hA rfl (.inl ⟨s',hbF.trans he,rfl,hH.rm 5 |>.rm 5 |>.rm 5⟩)
      · repeat' (first|(refine QT ?_;clear hA a;intro a hA)|refine CT ?_|fail)
        exact rt1 (.inl rfl) rfl hA rfl (.inr ⟨hbF.trans he,rfl,s',hH.rm 5 |>.rm 5 |>.rm 5⟩)
    rw [if_neg hk7] at hbF
    by_cases hk8:k=8
    · rw [if_pos hk8] at hbF
      repeat' (first|(refine GT ?_ ?_<;>intro hg<;>clear hA a<;>intro a hA<;>(first|exact FA|replace hg:=dTr hg|replace hg:=dFa hg|skip))|(refine XT ?_;apply XE;(first|(apply qQ;rfl;rfl;exact MEMT));clear hA a;intro a hA)|(refine QT ?_;clear hA a;intro a hA)|refine CT ?_|(refine DT ?_ ?_<;>intro hc<;>try (exfalso;omega))|(refine zQ [(0,1),(1,1),(2,1),(3,1),(4,1),(5,1),(6,1),(7,1),(8,1),(9,1),(10,1),(11,1),(12,1),(13,1),(14,1),(15,1),(16,1),(17,1),(18,1),(19,1),(20,1)] mixed (by decide +kernel) hH ?_;replace hH:=hH.drew)|fail)
      all_goals first
        |exact rt1 (.inl rfl) rfl hA rfl (.inr ⟨hbF.trans (if_neg fun h=>absurd h.1 (by assumption)),rfl,s1,hH.rm 5 |>.rm 5 |>.rm 5⟩)
        |skip
      have hin:n∈s1.op:=by assumption
      by_cases hj8:(va.l.length:Int)=(lkI s1.js n).getD 0
      · exact rt1 (.inl rfl) rfl hA rfl (.inl ⟨s1,hbF.trans (if_pos ⟨hin,hj8⟩),by rw [decide_eq_true hj8],hH.rm 5 |>.rm 5 |>.rm 5⟩)
      · exact rt1 (.inl rfl) rfl hA rfl (.inr ⟨hbF.trans (if_neg fun h=>hj8 h.2),by rw [decide_eq_false hj8],s1,hH.rm 5 |>.rm 5 |>.rm 5⟩)
    rw [if_neg hk8] at hbF
    by_cases hk6:k=6
    · rw [if_pos hk6] at hbF
      have hspN:Sp ns.o ns.l.length:=h2.1.1.sp (sz:=1) (zF Fw.encI_len _) (by omega)
      have hNr:=h2.1.1
      repeat' (first|(refine QT ?_;clear hA a;intro a hA)|refine CT ?_|(refine DT ?_ ?_<;>intro hc<;>try (exfalso;omega))|fail)
      refine yK (S:=Nat) (fun i a w=>(i≤ns.l.length∧∀k,k<i→upAt ns.l k)∧HS w0 noM (cb bK 127 (zU ⟨oP,nP,cP,g,oA,nA,cA,caps,some bE,some bW,some bJ,some bO⟩ (s1).p)::sk bE (s1).ever::sk bW (s1).now::mpI bJ (s1).js::sk bO (s1).op::cb b5 3 [.int .i64 d]::cb b4 70 (xF (.mk k x xs n ns r va ko kc kids))::cb b3 124 [.pointer (some (bat bK 0))]::H) w∧Sl 241 [(176,.int .i64 i),(175,.int .i64 ns.l.length),(174,.slice ns.o ns.l.length ns.c),(6,.bool false),(5,.pointer (some (bat b5 0))),(4,.pointer (some (bat b4 0))),(3,.pointer (some (bat b3 0)))] a) (fun i=>ns.l.length - i)
        (fun a w=>upP ns.l∧HS w0 noM (cb bK 127 (zU ⟨oP,nP,cP,g,oA,nA,cA,caps,some bE,some bW,some bJ,some bO⟩ (s1).p)::sk bE (s1).ever::sk bW (s1).now::mpI bJ (s1).js::sk bO (s1).op::cb b5 3 [.int .i64 d]::cb b4 70 (xF (.mk k x xs n ns r va ko kc kids))::cb b3 124 [.pointer (some (bat bK 0))]::H) w∧Sl 241 [(6,.bool false),(5,.pointer (some (bat b5 0))),(4,.pointer (some (bat b4 0))),(3,.pointer (some (bat b3 0)))] a) 0 ⟨⟨Nat.zero_le _,fun k h=>absurd h (Nat.not_lt_zero _)⟩,hH,(hA.sub SBT)⟩ ?_ ?_
      · clear hA hH
        rintro i a w ⟨⟨hi,hup⟩,hH,hA⟩
        by_cases hlt:i<ns.l.length
        rotate_left
        · obtain rfl:i=ns.l.length:=by omega
          repeat' (first|(refine QT ?_;clear hA a;intro a hA)|refine CT ?_|(refine DT ?_ ?_<;>intro hc<;>try (exfalso;omega))|fail)
          exact ⟨hup,hH,(hA.sub SBT)⟩
        have e1:((i:Int) - 1).toNat=i - 1:=by omega
        repeat' (first|(refine GT ?_ ?_<;>intro hg<;>clear hA a<;>intro a hA<;>(first|exact FA|replace hg:=dTr hg|replace hg:=dFa hg|skip))|(refine XT ?_;apply XE;(first|(apply zE;rfl;rfl;omega;exact hspN)|(apply zD;rfl;rfl;omega;omega;exact hspN)|(apply zC;rfl;refine xP hNr id (nE ?_);omega));clear hA a;intro a hA)|(refine QT ?_;clear hA a;intro a hA)|refine CT ?_|(refine DT ?_ ?_<;>intro hc<;>try (exfalso;omega))|fail)
        all_goals first
          |exact ⟨i+1,⟨⟨hlt,jO hup (fun h0=>(by omega))⟩,hH,(hA.sub SBT)⟩,by omega⟩
          |exact ⟨i+1,⟨⟨hlt,jO hup (fun h0=>(by rw [←e1];omega))⟩,hH,(hA.sub SBT)⟩,by omega⟩
          |exact rt1 (.inl rfl) rfl hA rfl (.inr ⟨hbF.trans (if_neg fun h=>(by have h1:=h.1 i hlt (by omega);rw [←e1] at h1;omega)),rfl,s1,hH.rm 5 |>.rm 5 |>.rm 5⟩)
      clear hA hH a w
      rintro a w ⟨hup,hH,hA⟩
      repeat' (first|(refine GT ?_ ?_<;>intro hg<;>clear hA a<;>intro a hA<;>(first|exact FA|replace hg:=dTr hg|replace hg:=dFa hg|skip))|(refine QT ?_;clear hA a;intro a hA)|refine CT ?_|(refine DT ?_ ?_<;>intro hc<;>try (exfalso;omega))|fail)
      all_goals first
        |exact ⟨hbF.trans (if_pos ⟨hup,fun h=>(by have:=len_nil h;omega),by omega⟩),hH,(hA.sub SBT)⟩
        |exact rt1 (.inl rfl) rfl hA rfl (.inr ⟨hbF.trans (if_neg fun h=>h.2.1 (List.eq_nil_of_length_eq_zero (by omega))),rfl,s1,hH.rm 5 |>.rm 5 |>.rm 5⟩)
        |exact rt1 (.inl rfl) rfl hA rfl (.inr ⟨hbF.trans (if_neg fun h=>(by have:=h.2.2;omega)),rfl,s1,hH.rm 5 |>.rm 5 |>.rm 5⟩)
    rw [if_neg hk6] at hbF
    repeat' (first|(refine QT ?_;clear hA a;intro a hA)|refine CT ?_|(refine DT ?_ ?_<;>intro hc<;>try (exfalso;omega))|fail)
    exact ⟨hbF,hH,(hA.sub SBT)⟩
  clear hA hH hbF a w
  rintro a w ⟨hbF,hH,hA⟩
  repeat' (first|(refine QT ?_;clear hA a;intro a hA)|refine CT ?_|fail)
  (refine zH hA rfl rfl (by decide) (zA rfl rfl rfl (jF w0 _ (cb b5 3 [.int .i64 d]::cb b4 70 (xF (.mk k x xs n ns r va ko kc kids))::cb b3 124 [.pointer (some (bat bK 0))]::H) ⟨oP,nP,cP,g,oA,nA,cA,caps,some bE,some bW,some bJ,some bO⟩ la bK bE bW bJ bO b3 b5 ⟨ko,kc,kids⟩ d s1 h6.1 hb h6l (.tail _ (.tail _ (.tail _ hm))) (by exact MEMT) (by exact MEMT) hs1 hd hdd hH)) ?_;clear hA hH)
  rintro _ w (⟨s',he,rfl,hH⟩| ⟨he,rfl,s',hH⟩) a hA
  · repeat' (first|(refine QT ?_;clear hA a;intro a hA)|refine CT ?_|fail)
    exact rt1 (.inl rfl) rfl hA rfl (.inl ⟨s',hbF.trans he,rfl,hH.rm 5 |>.rm 5 |>.rm 5⟩)
  · repeat' (first|(refine QT ?_;clear hA a;intro a hA)|refine CT ?_|fail)
    exact rt1 (.inl rfl) rfl hA rfl (.inr ⟨hbF.trans he,rfl,s',hH.rm 5 |>.rm 5 |>.rm 5⟩)
theorem bodyC_all (w0:World) (c:Kk) (la:List Int) (bK bE bW bJ bO:Nat) (he:c.e=some bE) (hc:c.n=some bW) (hj:c.j=some bJ) (ho:c.o=some bO) (hn:c.nA=la.length) (hla:la.length≤9223372036854775807) {b:AN} (hR:RdN w0 b):BodyC w0 c la bK bE bW bJ bO b:=by
  induction hR with
  |mk h1 h2 h3 h4 h5 h6 h7 ih=>exact bodyN_spec w0 c la bK bE bW bJ bO he hc hj ho _ _ _ _ _ _ _ _ _ _ (.mk h1 h2 h3 h4 h5 h6 h7) ih hn hla
end
end Go.Proofs.YtenlcdokaadobaaGreatDoor
namespace Go.Fw
open Go Go.RowKit
set_option linter.unusedVariables false
section
variable {P:Program} {N:Nat} {l:List (Nat × Value)} {C:World→Prop} {d:Option Tmp} {T:TypeId} {pos:String} {af:Array Edge} {g:Option (Nat × Bool)}
theorem gL {t kt e b:Nat} {kk:IntKind} {x y z:Operand} {ks:List Int} {k:Int} {w0 w:World} {M:Nat→Prop} {H H':List It} [ht:TMp P t kt e] [hk:TIn P kt kk]
    (hx:ev l x=some (.map (some b))) (hy:ev l y=some (.int .i64 k)) (hz:ev l z=some (.bool true)) (hH:HS w0 M H w) (hr:Rp H (sk b ks) (sk b (sG ks k)) H') :
    Op1 P N l ⟨d,.insert t x y z,T,pos,af,g⟩ w (fun _ w'=>HS w0 M H' w'):=by
  intro a hA K Q hK
  have h:=mR (P:=P) (N:=N) (d:=d) (T:=T) (pos:=pos) (af:=af) (g:=g) (t:=t) hx hy hz hH hr a hA K Q hK
  exact h
inductive SzL (P:Program):List (Nat × Nat)→List (Nat × Nat)→Prop
  |nil:SzL P [] []
  |cons {t o s:Nat} {fl szs:List (Nat × Nat)} (h:∃i,P.info? t=some i∧i.size=s) (k:SzL P fl szs):SzL P ((t,o)::fl) ((o,s)::szs)
theorem wP {fl szs:List (Nat × Nat)} (h:SzL P fl szs) (w:World):(fl.mapM (fun p=>do pure (p.2,←sizeOf p.1)):Sem (List (Nat × Nat))).run P w= .ok szs w:=by
  induction h with
  |nil=>simp
  | @cons t o s fl szs h k ih=>
    obtain ⟨i,h1,h2⟩:=h
    rw [List.mapM_cons]
    have e1:(sizeOf t:Sem Nat).run P w= .ok s w:=by
      simp [sizeOf,typeInfo,h1,h2]
    simp only [Sem.run_bind,e1,Result.andThen_ok,Sem.run_pure,ih]
end
end Go.Fw
namespace Go.Proofs.YtenlcdokaadobaaGreatDoor
open Go Go.Fw
set_option linter.unusedVariables false
def uC (o:Option Addr) (c:Int):List Value:=.int .i64 c::nM o
theorem lG (o:Option Addr) (c:Int):(uC o c).length=12:=rfl
theorem gO {b:Bool} {p:Prop} (h:b=true↔p) (hn:(!b)=true):¬p:=fun hp=>by rw [h.2 hp] at hn;cases hn
theorem nZ {b:Bool} {p:Prop} (h:b=true↔p) (hn:(!b)=false):p:=h.1 (by cases b with|true=>rfl|false=>cases hn)
theorem rX {cs:List Int} {g:Grs} (h:¬AnfP cs g):false=true↔AnfP cs g:=⟨fun e=>(by cases e),fun e=>absurd e h⟩
def four:List ByteArray:=[eT,exnD,exnM,eS]
theorem has4 {cs:List Int} {g:Grs} (h:AnfP cs g):∀s∈four,pM g.xs.l s:=fun s hs=>by
  simp only [four,List.mem_cons,List.not_mem_nil,or_false] at hs
  obtain ⟨h1,h2,h3,h4⟩:=h.has
  rcases hs with rfl|rfl|rfl|rfl<;>assumption
theorem has4_of {l:List ByteArray} (h:∀k,k<four.length→pM l (four.getD k default)):pM l eT∧pM l exnD∧pM l exnM∧pM l eS:=⟨h 0 (by decide),h 1 (by decide),h 2 (by decide),h 3 (by decide)⟩
theorem caps_next {l:List Int} {i:Nat} {x:Int} (hx:l[i]?=some x) (h:∀c∈l.take i,0≤c∧c≤4096) (ha:0≤x∧x≤4096):∀c∈l.take (i+1),0≤c∧c≤4096:=by
  rw [yU hx]
  intro c hc
  rcases List.mem_append.1 hc with h1|h1
  · exact h c h1
  · rw [List.mem_singleton] at h1
    exact h1▸ha
theorem xN {α:Type} {l:List α} {k:Nat} {d:α} (h:k<l.length):l.getD k d∈l:=by
  rw [List.getD_eq_getElem?_getD,List.getElem?_eq_getElem h]
  exact List.getElem_mem h
theorem own4 {w0 w:World} {H:List It} {T:Nat} {o:Option Addr} {a b c d:ByteArray} (h:HS w0 noM (own T 1 o 4 4 [.string a,.string b,.string c,.string d]::H) w):∃sl:List ByteArray,sl=[a,b,c,d]∧sl.length=4∧HS w0 noM (own T 1 o sl.length sl.length (flat yY sl)::H) w:=⟨[a,b,c,d],rfl,rfl,h⟩
def kk0 (o:Option Addr) (n c:Nat) (g:Grs):Kk:=⟨o,n,c,g,none,0,0,0,none,none,none,none⟩
theorem cap_at {o:Option Addr} {l:List Int} {k:Nat} (h:k<l.length):(flat (uC o) l)[k*12+0]?=some (.int .i64 (l.getD k 0)):=by
  refine yZ (off:=0) (lG o) (List.getElem?_eq_getElem h) ?_
  rw [List.getD_eq_getElem?_getD,List.getElem?_eq_getElem h]
  rfl
theorem aO (l:List Int) (x:Int):flat Fw.encI l++[.int .i64 x]=flat Fw.encI (l++[x]):=by rw [xZ];rfl
theorem sub_bd (o:Option Addr) (c:Int) (i:Nat) (v:Value) (h:(nM o)[i]?=some v):(uC o c)[0+1+i]?=some v:=by rw [Nat.zero_add,Nat.add_comm];exact h
section
attribute [local irreducible] Code.wp wpList Calls Ex Op1 sat bat blk cb own Go.Fw.mp Go.Fw.mpO Go.Fw.mpI Go.Fw.mpE Go.Fw.itr HS Rd Ret wkD Hp Cl Cls Exit.then Exit.inBlock Exit.noGoto bodyPost Go.Fw.flat wk2 Go.Fw.all Go.Fw.owns wpOp
attribute [local irreducible] sk mpK sko mvO xI geS

theorem anfMay_spec (w0:World) (oF:Option Addr) (cF:Nat) (cs:List Int) (o:Option Addr) (g:Grs) (hF:Rd w0 oF (flat (uC o) cs)) (hr:Rd w0 o (zN at0)) (hcl:cs.length≤100000) (hls:RdV w0 yY g.ls) (hts:RdV w0 yY g.ts) (hxs:RdV w0 yY g.xs) (hss:RdV w0 yY g.ss) :
    Ret Tryz.prog 18 #[.agg (xA oF cs.length cF g).toArray] w0 (fun v w=>∃b,v= .bool b∧(b=true↔AnfP cs g)∧Kp w0 noM w):=by
  have hH:HS w0 noM [] w0:=HS.init w0 noM
  have hspF:Sp oF cs.length:=hF.sp (sz:=12) (zF (lG o) _) (by omega)
  (refine ENT (N:=126) Tryz.func18 Tryz.ntmps18 ?_;intro a hA)
  repeat' (first|(refine GT ?_ ?_<;>intro hg<;>clear hA a<;>intro a hA<;>(first|exact FA|replace hg:=dTr hg|replace hg:=dFa hg|skip))|(refine XT ?_;apply XE;(first|(apply zC;rfl;refine xP hF id (cap_at ?_);(show 0< _);omega));clear hA a;intro a hA)|(refine QT ?_;clear hA a;intro a hA)|(refine BT ?_;clear hA hH;rintro _ w ⟨bN,rfl,hH⟩ a hA)|(refine LT ?_;clear hA hH;rintro _ w ⟨oN,rfl,hH⟩ a hA)|(refine zH hA rfl rfl (by decide) (zA rfl rfl rfl (tD _ g.ls (hls.keep hH.kp))) ?_;clear hA;rintro _ w ⟨b,rfl,hb1,hk⟩ a hA;replace hH:=hH.keep hk;clear hk)|(refine zH hA rfl rfl (by decide) (zA rfl rfl rfl (tD _ g.ts (hts.keep hH.kp))) ?_;clear hA;rintro _ w ⟨b,rfl,hb2,hk⟩ a hA;replace hH:=hH.keep hk;clear hk)|(refine zH hA rfl rfl (by decide) (zA rfl rfl rfl (tD _ g.xs (hxs.keep hH.kp))) ?_;clear hA;rintro _ w ⟨b,rfl,hb3,hk⟩ a hA;replace hH:=hH.keep hk;clear hk)|refine CT ?_|(refine DT ?_ ?_<;>intro hc<;>try (exfalso;omega))|fail)
  · exact rt1 (.inl rfl) rfl hA rfl ⟨_,rfl,rX (fun h=>(by have:=h.pos;omega)),hH.kp⟩
  · exact rt1 (.inl rfl) rfl hA rfl ⟨_,rfl,rX (fun h=>(by have:=h.top;omega)),hH.kp⟩
  · exact rt1 (.inl rfl) rfl hA rfl ⟨_,rfl,rX (fun h=>(by assumption:cs.getD (Int.toNat 0) 0≠0) h.c0),hH.kp⟩
  · exact rt1 (.inl rfl) rfl hA rfl ⟨_,rfl,rX (fun h=>gO hb1 (by assumption) h.ls),hH.kp⟩
  · exact rt1 (.inl rfl) rfl hA rfl ⟨_,rfl,rX (fun h=>gO hb2 (by assumption) h.ts),hH.kp⟩
  · exact rt1 (.inl rfl) rfl hA rfl ⟨_,rfl,rX (fun h=>gO hb3 (by assumption) h.xs),hH.kp⟩
  have hp1:=nZ hb1 (by assumption)
  have hp2:=nZ hb2 (by assumption)
  have hp3:=nZ hb3 (by assumption)
  have hc0:cs.getD 0 0=0:=Decidable.not_not.1 (by assumption:¬cs.getD (Int.toNat 0) 0≠0)
  clear hb1 hb2 hb3
  obtain ⟨b1,hb1⟩:∃x,x=bN:=⟨_,rfl⟩
  rw [←hb1] at hA hH
  clear hb1 bN
  have hcl2:1≤cs.length:=by omega
  have hcl4:cs.length≤4096:=by omega
  obtain ⟨sl,hsl0,hsl,hH1⟩:=own4 hH
  have hsl4:sl=four:=hsl0.trans rfl
  clear hsl0
  clear hH
  have hH:=hH1
  clear hH1
  have hA2:Sl 126 [(48,.int .i64 (0:Nat)),(47,.int .i64 sl.length),(46,.slice oN sl.length sl.length),(1,.pointer (some (bat b1 0)))] a:=by rw [hsl];exact (hA.sub SBT)
  clear hA
  have hspS:=hH.own_sp (T:=9) (o:=oN) (.head _)
  refine yK (S:=Nat) (fun i a w=>(i≤sl.length∧∀k,k<i→pM g.xs.l (sl.getD k default))∧HS w0 noM [own 9 1 oN sl.length sl.length (flat yY sl),cb b1 34 (xA oF cs.length cF g)] w∧Sl 126 [(48,.int .i64 i),(47,.int .i64 sl.length),(46,.slice oN sl.length sl.length),(1,.pointer (some (bat b1 0)))] a) (fun i=>sl.length - i)
    (fun a w=>(∀k,k<sl.length→pM g.xs.l (sl.getD k default))∧HS w0 noM [cb b1 34 (xA oF cs.length cF g)] w∧Sl 126 [(1,.pointer (some (bat b1 0)))] a) 0 ⟨⟨Nat.zero_le _,fun k h=>absurd h (Nat.not_lt_zero _)⟩,hH,hA2⟩ ?_ ?_
  · clear hA2 hH
    rintro i a w ⟨⟨hi,hhas⟩,hH,hA⟩
    by_cases hlt:i<sl.length
    rotate_left
    · obtain rfl:i=sl.length:=by omega
      repeat' (first|(refine QT ?_;clear hA a;intro a hA)|refine CT ?_|(refine DT ?_ ?_<;>intro hc<;>try (exfalso;omega))|fail)
      exact ⟨hhas,hH.tail,(hA.sub SBT)⟩
    have hv:=tU hlt
    repeat' (first|(refine XT ?_;apply XE;(first|(apply zE;rfl;rfl;omega;exact hspS)|(apply zC;rfl;apply uD (T:=9);exact MEMT;exact hv));clear hA a;intro a hA)|(refine QT ?_;clear hA a;intro a hA)|refine CT ?_|(refine DT ?_ ?_<;>intro hc<;>try (exfalso;omega))|fail)
    (refine zH hA rfl rfl (by decide) (zA rfl rfl rfl (pX _ g.xs _ (hxs.keep hH.kp))) ?_;clear hA;rintro _ w ⟨rfl,hk⟩ a hA;replace hH:=hH.keep hk;clear hk)
    repeat' (first|(refine QT ?_;clear hA a;intro a hA)|refine CT ?_|(refine DT ?_ ?_<;>intro hc<;>try (exfalso;omega))|fail)
    all_goals first|exact ⟨i+1,⟨⟨hlt,nD (p:=fun k=>pM g.xs.l (sl.getD k default)) hhas (by assumption)⟩,hH,(hA.sub SBT)⟩,by omega⟩|exact rt1 (.inl rfl) rfl hA rfl ⟨_,rfl,rX (fun h=>(by assumption:¬0≤wQ g.xs.l (sl.getD i default)) (has4 h _ (hsl4▸xN hlt))),hH.kp⟩
  clear hA2 hH
  rintro a w ⟨hhas,hH,hA⟩
  rw [hsl4] at hhas
  have hx4:=has4_of hhas
  clear hhas hsl hsl4 hspS
  repeat' (first|(refine QT ?_;clear hA a;intro a hA)|refine CT ?_|fail)
  (refine zH hA rfl rfl (by decide) (zA rfl rfl rfl (qY _ g.ss (hss.keep hH.kp))) ?_;clear hA;rintro _ w ⟨b,rfl,hbs,hk⟩ a hA;replace hH:=hH.keep hk;clear hk)
  repeat' (first|(refine XT ?_;apply XE;(first|(apply xJ (szs:=[(0,5),(5,1),(6,1),(7,1),(8,1),(9,1),(10,1),(11,1)]) (cs:=(zU (kk0 oF cs.length cF g) 0).toArray);exact wP (by (repeat (first|exact SzL.nil|refine SzL.cons ⟨_,rfl,by decide⟩ ?_)));rfl;rfl));clear hA a;intro a hA)|(refine QT ?_;clear hA a;intro a hA)|(refine BT ?_;clear hA hH;rintro _ w ⟨bN,rfl,hH⟩ a hA)|refine CT ?_|(refine DT ?_ ?_<;>intro hc<;>try (exfalso;omega))|fail)
  · exact rt1 (.inl rfl) rfl hA rfl ⟨_,rfl,rX (fun h=>hbs.1 (by assumption) h.ss),hH.kp⟩
  have hss4:∀s∈g.ss.l,s.size≤4096:=Classical.not_not.1 fun h=>absurd ((by assumption:b=false).symm.trans (hbs.2 h)) (by decide)
  clear hbs
  obtain ⟨bK,hbK⟩:∃x,x=bN:=⟨_,rfl⟩
  rw [←hbK] at hA hH
  clear hbK bN
  refine yK (S:=Nat) (fun i a w=>∃oA cA,i≤cs.length∧HS w0 noM [cb bK 127 (zU ⟨oF,cs.length,cF,g,oA,i,cA,0,none,none,none,none⟩ 0),own 3 1 oA i cA (flat Fw.encI (cs.take i)),cb b1 34 (xA oF cs.length cF g)] w∧Sl 126 [(67,.int .i64 i),(66,.int .i64 cs.length),(65,.slice oF cs.length cF),(5,.pointer (some (bat bK 0))),(1,.pointer (some (bat b1 0)))] a) (fun i=>cs.length - i)
    (fun a w=>∃oA nA cA,HS w0 noM [cb bK 127 (zU ⟨oF,cs.length,cF,g,oA,nA,cA,0,none,none,none,none⟩ 0),cb b1 34 (xA oF cs.length cF g)] w∧Sl 126 [(5,.pointer (some (bat bK 0))),(1,.pointer (some (bat b1 0)))] a) 0 ⟨none,0,Nat.zero_le _,(by rw [List.take_zero];exact (hH.nil_flat Fw.encI 3 1).perm PMT),(hA.sub SBT)⟩ ?_ ?_
  · clear hA hH
    rintro i a w ⟨oA,cA,hi,hH,hA⟩
    by_cases hlt:i<cs.length
    rotate_left
    · repeat' (first|(refine QT ?_;clear hA a;intro a hA)|refine CT ?_|(refine DT ?_ ?_<;>intro hc<;>try (exfalso;omega))|fail)
      exact ⟨oA,i,cA,hH.rm 1,(hA.sub SBT)⟩
    obtain ⟨x,hx⟩:∃x,cs[i]?=some x:=⟨_,List.getElem?_eq_getElem hlt⟩
    have hvx:=yA (lG o) hx
    repeat' (first|(refine XT ?_;apply XE;(first|(apply zG (vs:=uC o x);rfl;rfl;exact yV hF id hvx)|(apply zE;rfl;rfl;omega;exact hspF));clear hA a;intro a hA)|(refine QT ?_;clear hA a;intro a hA)|(refine BT ?_;clear hA hH;rintro _ w ⟨bN,rfl,hH⟩ a hA)|(refine SAT (uC o x) hA hH ?_;clear hH;intro w hH)|refine CT ?_|(refine DT ?_ ?_<;>intro hc<;>try (exfalso;omega))|fail)
    have hST:HS w0 noM [cb bN 72 (uC o x),cb bK 127 (zU ⟨oF,cs.length,cF,g,oA,i,cA,0,none,none,none,none⟩ 0)] w:=HS.left (H1:=[_,_]) hH
    (refine zK (H:=[_,_]) [(0,1),(1,1),(2,1),(3,1),(4,1),(5,1),(6,1),(7,0),(8,0),(9,1),(10,1)] [11] mixed (by decide +kernel) (hST) ?_;replace hH:=hH.drew)
    clear hST
    repeat' (first|(refine QT ?_;clear hA a;intro a hA)|(refine DLT ?_;clear hA hH;rintro _ w ⟨oN,rfl,hH⟩;refine ⟨STT,?_⟩;intro a hA)|fail)
    (apply yO hA rfl rfl rfl (by decide);apply zZ;rfl;rfl;exact CATST;rfl;rfl;rfl;exact hH;clear hA hH;rintro _ w ⟨oN,rfl,hH⟩;refine ⟨HS.left (H1:=[_,_]) hH.tail,?_⟩;intro a hA)
    dsimp only at hA
    (apply yO hA rfl rfl rfl (by decide);apply yX;rfl;rfl;exact hH;exact MEMT;exact (hH.own_rd (List.Mem.head _));exact rfl;rfl;decide;exact rfl;(unfold maxLen;omega);omega;clear hA;rintro _ w ⟨oN,cN,rfl,hH2⟩;clear hH;have hH:=hH2 _ (by (repeat constructor));clear hH2;refine ⟨HS.left (H1:=[_,_]) hH.tail,?_⟩;intro a hA)
    rw [aO,←yU hx] at hH
    repeat' (first|(refine QT ?_;clear hA a;intro a hA)|refine CT ?_|fail)
    (apply zX hA rfl rfl rfl;apply zB (cs':=zU ⟨oF,cs.length,cF,g,oN,i+1,cN,0,none,none,none,none⟩ 0);rfl;rfl;rfl;exact hH;(repeat constructor);clear hH;rintro _ w hH)
    repeat' (first|(refine QT ?_;clear hA a;intro a hA)|refine CT ?_|fail)
    exact ⟨i+1,⟨oN,cN,hlt,(((hH.rm 0).rm 0).perm PMT),(hA.sub SBT)⟩,by omega⟩
  clear hA hH
  rintro a w ⟨oA,nA,cA,hH,hA⟩
  repeat' (first|(refine QT ?_;clear hA a;intro a hA)|refine CT ?_|fail)
  refine yK (S:=Nat) (fun i a w=>∃c p,(i≤cs.length∧0≤p∧p≤2* (i:Int)∧∀c∈cs.take i,0≤c∧c≤4096)∧HS w0 noM [cb bK 127 (zU c p),cb b1 34 (xA oF cs.length cF g)] w∧Sl 126 [(86,.int .i64 i),(85,.int .i64 cs.length),(84,.slice oF cs.length cF),(5,.pointer (some (bat bK 0)))] a) (fun i=>cs.length - i)
    (fun a w=>(∀c∈cs,0≤c∧c≤4096)∧HS w0 noM [] w∧Sl 126 [] a) 0 ⟨_,0,⟨Nat.zero_le _,Int.le_refl _,by omega,(by rw [List.take_zero];exact fun c h=>absurd h List.not_mem_nil)⟩,hH,(hA.sub SBT)⟩ ?_ ?_
  · clear hA hH
    rintro i a w ⟨c,p,⟨hi,hp0,hp1,hcap⟩,hH,hA⟩
    by_cases hlt:i<cs.length
    rotate_left
    · obtain rfl:i=cs.length:=by omega
      rw [List.take_length] at hcap
      repeat' (first|(refine QT ?_;clear hA a;intro a hA)|refine CT ?_|(refine DT ?_ ?_<;>intro hc<;>try (exfalso;omega))|fail)
      exact ⟨hcap,hH.tail.tail,(hA.sub SBT)⟩
    obtain ⟨x,hx⟩:∃x,cs[i]?=some x:=⟨_,List.getElem?_eq_getElem hlt⟩
    have hvx:=yA (lG o) hx
    repeat' (first|(refine GT ?_ ?_<;>intro hg<;>clear hA a<;>intro a hA<;>(first|exact FA|replace hg:=dTr hg|replace hg:=dFa hg|skip))|(refine XT ?_;apply XE;(first|(apply zG (vs:=uC o x);rfl;rfl;exact yV hF id hvx)|(apply zE;rfl;rfl;omega;exact hspF));clear hA a;intro a hA)|(refine QT ?_;clear hA a;intro a hA)|(refine BT ?_;clear hA hH;rintro _ w ⟨bN,rfl,hH⟩ a hA)|(refine SAT (uC o x) hA hH ?_;clear hH;intro w hH)|(apply zO hA rfl rfl;apply zB (cs':=zU {c with caps:=x} p);rfl;rfl;rfl;exact hH;(repeat constructor);clear hH;rintro _ w hH)|refine CT ?_|(refine DT ?_ ?_<;>intro hc<;>try (exfalso;omega))|fail)
    · exact rt1 (.inl rfl) rfl hA rfl ⟨_,rfl,rX (fun h=>(by have:=h.caps x (List.mem_of_getElem? hx);omega)),hH.kp⟩
    · exact rt1 (.inl rfl) rfl hA rfl ⟨_,rfl,rX (fun h=>(by have:=h.caps x (List.mem_of_getElem? hx);omega)),hH.kp⟩
    have hxx:0≤x∧x≤4096:=by omega
    (refine zH hA rfl rfl (by decide) (wH hH) ?_;clear hA hH;rintro _ w ⟨m1,rfl,hH⟩ a hA)
    (refine zH hA rfl rfl (by decide) (wH hH) ?_;clear hA hH;rintro _ w ⟨m2,rfl,hH⟩ a hA)
    repeat' (first|(refine QT ?_;clear hA a;intro a hA)|(apply zO hA rfl rfl;apply gL;rfl;rfl;rfl;exact hH;(repeat constructor);clear hH;rintro _ w hH)|fail)
    (refine zH hA rfl rfl (by decide) (rM hH) ?_;clear hA hH;rintro _ w ⟨m3,rfl,hH⟩ a hA)
    (refine zH hA rfl rfl (by decide) (wH hH) ?_;clear hA hH;rintro _ w ⟨m4,rfl,hH⟩ a hA)
    obtain ⟨ca,hca⟩:∃y:Kk,y={c with caps:=x}:=⟨_,rfl⟩
    have hH5:=hH.rm 0 |>.rm 0 |>.rm 0 |>.rm 0
    clear hH
    dsimp only [List.eraseIdx_cons_succ,List.eraseIdx_cons_zero] at hH5
    have hH:=hH5
    clear hH5
    rw [←hca] at hH
    obtain ⟨oP,nP,cP,g',oA',nA',cA',caps',e',n',j',o'⟩:=ca
    repeat' (first|(refine QT ?_;clear hA a;intro a hA)|(apply zO hA rfl rfl;apply zB (cs':=zU ⟨oP,nP,cP,g',oA',nA',cA',caps',some m1,n',j',o'⟩ p);rfl;rfl;rfl;exact hH;(repeat constructor);clear hH;rintro _ w hH)|(apply zO hA rfl rfl;apply zB (cs':=zU ⟨oP,nP,cP,g',oA',nA',cA',caps',some m1,some m2,j',o'⟩ p);rfl;rfl;rfl;exact hH;(repeat constructor);clear hH;rintro _ w hH)|(apply zO hA rfl rfl;apply zB (cs':=zU ⟨oP,nP,cP,g',oA',nA',cA',caps',some m1,some m2,some m3,o'⟩ p);rfl;rfl;rfl;exact hH;(repeat constructor);clear hH;rintro _ w hH)|(apply zO hA rfl rfl;apply zB (cs':=zU ⟨oP,nP,cP,g',oA',nA',cA',caps',some m1,some m2,some m3,some m4⟩ p);rfl;rfl;rfl;exact hH;(repeat constructor);clear hH;rintro _ w hH)|refine CT ?_|fail)
    repeat' (first|(refine XT ?_;apply XE;(first|(apply zG (vs:=nM o);rfl;rfl;exact rW MEMT (sub_bd o x)));clear hA a;intro a hA)|(refine QT ?_;clear hA a;intro a hA)|fail)
    (refine zH hA rfl rfl (by decide) (zA rfl rfl rfl (body_spec w0 _ _ _ bK p o (hH.up 1 rfl) hr hp0 (by omega))) ?_;clear hA hH)
    rintro _ w ⟨rfl,hH⟩ a hA
    repeat' (first|(refine QT ?_;clear hA a;intro a hA)|refine CT ?_|fail)
    exact ⟨i+1,⟨_,p+2,⟨hlt,by omega,by omega,caps_next hx hcap hxx⟩,hH.rm 1,(hA.sub SBT)⟩,by omega⟩
  clear hA hH
  rintro a w ⟨hcap,hH,hA⟩
  repeat' (first|(refine QT ?_;clear hA a;intro a hA)|refine CT ?_|fail)
  exact rt1 (.inl rfl) rfl hA rfl ⟨_,rfl,iff_of_true rfl ⟨hcl2,hcl4,hc0,hp1,hp2,hp3,hx4,hss4,hcap⟩,hH.kp⟩
end
structure FN where
  caps:Int
  body:AN
def xX (f:FN):List Value:=.int .i64 f.caps::xF f.body
theorem vF (f:FN):(xX f).length=12:=by unfold xX;rw [List.length_cons,wN]
def yW (l:List FN):List Int:=l.map FN.caps
theorem cap_atN {l:List FN} {k:Nat} (h:k<l.length):(flat xX l)[k*12+0]?=some (.int .i64 ((yW l).getD k 0)):=by
  refine yZ (off:=0) vF (List.getElem?_eq_getElem h) ?_
  unfold yW
  rw [List.getD_eq_getElem?_getD,List.getElem?_map,List.getElem?_eq_getElem h]
  rfl
theorem eA {l:List FN} {i:Nat} {f:FN} (h:l[i]?=some f):yW (l.take (i+1))=yW (l.take i)++[f.caps]:=by unfold yW;rw [yU h,List.map_append];rfl
theorem sub_bdN (f:FN) (i:Nat) (v:Value) (h:(xF f.body)[i]?=some v):(xX f)[0+1+i]?=some v:=by rw [Nat.zero_add,Nat.add_comm];exact h
def cs0 (p:Int):CS:=⟨[],[0,1],[],[],p⟩
open Classical in
noncomputable def qF (g:Grs) (la:List Int):List FN→Int→Option Int
  | [],p=>some p
  |f::l,p=>if 0≤f.caps∧f.caps≤4096 then (xL g la f.caps f.body 1 (cs0 p)).bind fun s=>qF g la l s.p else none
theorem funs_yes {g:Grs} {la:List Int} {l:List FN} {i:Nat} {f:FN} {p:Int} (h:l[i]?=some f) (hc:0≤f.caps∧f.caps≤4096):qF g la (l.drop i) p=(xL g la f.caps f.body 1 (cs0 p)).bind fun s=>qF g la (l.drop (i+1)) s.p:=by
  obtain ⟨hi,rfl⟩:=List.getElem?_eq_some_iff.1 h
  rw [List.drop_eq_getElem_cons hi]
  exact if_pos hc
theorem funs_no {g:Grs} {la:List Int} {l:List FN} {i:Nat} {f:FN} {p:Int} (h:l[i]?=some f) (hc:¬(0≤f.caps∧f.caps≤4096)):qF g la (l.drop i) p=none:=by
  obtain ⟨hi,rfl⟩:=List.getElem?_eq_some_iff.1 h
  rw [List.drop_eq_getElem_cons hi]
  exact if_neg hc
def MayN (l:List FN) (g:Grs):Prop:=AnfP (yW l) g∧∃p,qF g (yW l) l 0=some p
theorem rN {l:List FN} {g:Grs} (h:¬AnfP (yW l) g):false=true↔MayN l g:=⟨fun e=>(by cases e),fun e=>absurd e.1 h⟩
theorem gQ {l:List FN} {g:Grs} (h:qF g (yW l) l 0=none):false=true↔MayN l g:=⟨fun e=>(by cases e),fun ⟨_,p,e⟩=>(by rw [h] at e;cases e)⟩
theorem caps_okN {l:List FN} {i:Nat} {f:FN} (hx:l[i]?=some f) (h:∀c∈yW (l.take i),0≤c∧c≤4096) (ha:0≤f.caps∧f.caps≤4096):∀c∈yW (l.take (i+1)),0≤c∧c≤4096:=by
  rw [eA hx]
  intro c hc
  rcases List.mem_append.1 hc with h1|h1
  · exact h c h1
  · rw [List.mem_singleton] at h1
    exact h1▸ha
theorem aY {p:Int} (h0:0≤p) (h1:p≤65536):CsOk (cs0 p):=⟨h0,h1,fun x hx=>by
  simp only [cs0,List.mem_cons,List.not_mem_nil,or_false] at hx
  exact .inl (by omega)⟩
section
attribute [local irreducible] Code.wp wpList Calls Ex Op1 sat bat blk cb own Go.Fw.mp Go.Fw.mpO Go.Fw.mpI Go.Fw.mpE Go.Fw.itr HS Rd Ret wkD Hp Cl Cls Exit.then Exit.inBlock Exit.noGoto bodyPost Go.Fw.flat wk2 Go.Fw.all Go.Fw.owns wpOp
attribute [local irreducible] sk mpK sko mvO xI geS

theorem qU (w0:World) (oF:Option Addr) (cF:Nat) (fl:List FN) (g:Grs) (hF:Rd w0 oF (flat xX fl)) (hr:∀f∈fl,RdN w0 f.body) (hcl:fl.length≤17592186044416) (hls:RdV w0 yY g.ls) (hts:RdV w0 yY g.ts) (hxs:RdV w0 yY g.xs) (hss:RdV w0 yY g.ss) :
    Ret Tryz.prog 18 #[.agg (xA oF fl.length cF g).toArray] w0 (fun v w=>∃b,v= .bool b∧(b=true↔MayN fl g)∧Kp w0 noM w):=by
  have hcsl:(yW fl).length=fl.length:=List.length_map ..
  have hH:HS w0 noM [] w0:=HS.init w0 noM
  have hspF:Sp oF fl.length:=hF.sp (sz:=12) (zF vF _) (by omega)
  (refine ENT (N:=126) Tryz.func18 Tryz.ntmps18 ?_;intro a hA)
  repeat' (first|(refine GT ?_ ?_<;>intro hg<;>clear hA a<;>intro a hA<;>(first|exact FA|replace hg:=dTr hg|replace hg:=dFa hg|skip))|(refine XT ?_;apply XE;(first|(apply zC;rfl;refine xP hF id (cap_atN ?_);(show 0< _);omega));clear hA a;intro a hA)|(refine QT ?_;clear hA a;intro a hA)|(refine BT ?_;clear hA hH;rintro _ w ⟨bN,rfl,hH⟩ a hA)|(refine LT ?_;clear hA hH;rintro _ w ⟨oN,rfl,hH⟩ a hA)|(refine zH hA rfl rfl (by decide) (zA rfl rfl rfl (tD _ g.ls (hls.keep hH.kp))) ?_;clear hA;rintro _ w ⟨b,rfl,hb1,hk⟩ a hA;replace hH:=hH.keep hk;clear hk)|(refine zH hA rfl rfl (by decide) (zA rfl rfl rfl (tD _ g.ts (hts.keep hH.kp))) ?_;clear hA;rintro _ w ⟨b,rfl,hb2,hk⟩ a hA;replace hH:=hH.keep hk;clear hk)|(refine zH hA rfl rfl (by decide) (zA rfl rfl rfl (tD _ g.xs (hxs.keep hH.kp))) ?_;clear hA;rintro _ w ⟨b,rfl,hb3,hk⟩ a hA;replace hH:=hH.keep hk;clear hk)|refine CT ?_|(refine DT ?_ ?_<;>intro hc<;>try (exfalso;omega))|fail)
  · exact rt1 (.inl rfl) rfl hA rfl ⟨_,rfl,rN (fun h=>(by have:=h.pos;omega)),hH.kp⟩
  · exact rt1 (.inl rfl) rfl hA rfl ⟨_,rfl,rN (fun h=>(by have:=h.top;omega)),hH.kp⟩
  · exact rt1 (.inl rfl) rfl hA rfl ⟨_,rfl,rN (fun h=>(by assumption:(yW fl).getD (Int.toNat 0) 0≠0) h.c0),hH.kp⟩
  · exact rt1 (.inl rfl) rfl hA rfl ⟨_,rfl,rN (fun h=>gO hb1 (by assumption) h.ls),hH.kp⟩
  · exact rt1 (.inl rfl) rfl hA rfl ⟨_,rfl,rN (fun h=>gO hb2 (by assumption) h.ts),hH.kp⟩
  · exact rt1 (.inl rfl) rfl hA rfl ⟨_,rfl,rN (fun h=>gO hb3 (by assumption) h.xs),hH.kp⟩
  have hp1:=nZ hb1 (by assumption)
  have hp2:=nZ hb2 (by assumption)
  have hp3:=nZ hb3 (by assumption)
  have hc0:(yW fl).getD 0 0=0:=Decidable.not_not.1 (by assumption:¬(yW fl).getD (Int.toNat 0) 0≠0)
  clear hb1 hb2 hb3
  obtain ⟨b1,hb1⟩:∃x,x=bN:=⟨_,rfl⟩
  rw [←hb1] at hA hH
  clear hb1 bN
  have hcl2:1≤(yW fl).length:=by omega
  have hcl4:(yW fl).length≤4096:=by omega
  obtain ⟨sl,hsl0,hsl,hH1⟩:=own4 hH
  have hsl4:sl=four:=hsl0.trans rfl
  clear hsl0
  clear hH
  have hH:=hH1
  clear hH1
  have hA2:Sl 126 [(48,.int .i64 (0:Nat)),(47,.int .i64 sl.length),(46,.slice oN sl.length sl.length),(1,.pointer (some (bat b1 0)))] a:=by rw [hsl];exact (hA.sub SBT)
  clear hA
  have hspS:=hH.own_sp (T:=9) (o:=oN) (.head _)
  refine yK (S:=Nat) (fun i a w=>(i≤sl.length∧∀k,k<i→pM g.xs.l (sl.getD k default))∧HS w0 noM [own 9 1 oN sl.length sl.length (flat yY sl),cb b1 34 (xA oF fl.length cF g)] w∧Sl 126 [(48,.int .i64 i),(47,.int .i64 sl.length),(46,.slice oN sl.length sl.length),(1,.pointer (some (bat b1 0)))] a) (fun i=>sl.length - i)
    (fun a w=>(∀k,k<sl.length→pM g.xs.l (sl.getD k default))∧HS w0 noM [cb b1 34 (xA oF fl.length cF g)] w∧Sl 126 [(1,.pointer (some (bat b1 0)))] a) 0 ⟨⟨Nat.zero_le _,fun k h=>absurd h (Nat.not_lt_zero _)⟩,hH,hA2⟩ ?_ ?_
  · clear hA2 hH
    rintro i a w ⟨⟨hi,hhas⟩,hH,hA⟩
    by_cases hlt:i<sl.length
    rotate_left
    · obtain rfl:i=sl.length:=by omega
      repeat' (first|(refine QT ?_;clear hA a;intro a hA)|refine CT ?_|(refine DT ?_ ?_<;>intro hc<;>try (exfalso;omega))|fail)
      exact ⟨hhas,hH.tail,(hA.sub SBT)⟩
    have hv:=tU hlt
    repeat' (first|(refine XT ?_;apply XE;(first|(apply zE;rfl;rfl;omega;exact hspS)|(apply zC;rfl;apply uD (T:=9);exact MEMT;exact hv));clear hA a;intro a hA)|(refine QT ?_;clear hA a;intro a hA)|refine CT ?_|(refine DT ?_ ?_<;>intro hc<;>try (exfalso;omega))|fail)
    (refine zH hA rfl rfl (by decide) (zA rfl rfl rfl (pX _ g.xs _ (hxs.keep hH.kp))) ?_;clear hA;rintro _ w ⟨rfl,hk⟩ a hA;replace hH:=hH.keep hk;clear hk)
    repeat' (first|(refine QT ?_;clear hA a;intro a hA)|refine CT ?_|(refine DT ?_ ?_<;>intro hc<;>try (exfalso;omega))|fail)
    all_goals first|exact ⟨i+1,⟨⟨hlt,nD (p:=fun k=>pM g.xs.l (sl.getD k default)) hhas (by assumption)⟩,hH,(hA.sub SBT)⟩,by omega⟩|exact rt1 (.inl rfl) rfl hA rfl ⟨_,rfl,rN (fun h=>(by assumption:¬0≤wQ g.xs.l (sl.getD i default)) (has4 h _ (hsl4▸xN hlt))),hH.kp⟩
  clear hA2 hH
  rintro a w ⟨hhas,hH,hA⟩
  rw [hsl4] at hhas
  have hx4:=has4_of hhas
  clear hhas hsl hsl4 hspS
  repeat' (first|(refine QT ?_;clear hA a;intro a hA)|refine CT ?_|fail)
  (refine zH hA rfl rfl (by decide) (zA rfl rfl rfl (qY _ g.ss (hss.keep hH.kp))) ?_;clear hA;rintro _ w ⟨b,rfl,hbs,hk⟩ a hA;replace hH:=hH.keep hk;clear hk)
  repeat' (first|(refine XT ?_;apply XE;(first|(apply xJ (szs:=[(0,5),(5,1),(6,1),(7,1),(8,1),(9,1),(10,1),(11,1)]) (cs:=(zU (kk0 oF fl.length cF g) 0).toArray);exact wP (by (repeat (first|exact SzL.nil|refine SzL.cons ⟨_,rfl,by decide⟩ ?_)));rfl;rfl));clear hA a;intro a hA)|(refine QT ?_;clear hA a;intro a hA)|(refine BT ?_;clear hA hH;rintro _ w ⟨bN,rfl,hH⟩ a hA)|refine CT ?_|(refine DT ?_ ?_<;>intro hc<;>try (exfalso;omega))|fail)
  · exact rt1 (.inl rfl) rfl hA rfl ⟨_,rfl,rN (fun h=>hbs.1 (by assumption) h.ss),hH.kp⟩
  have hss4:∀s∈g.ss.l,s.size≤4096:=Classical.not_not.1 fun h=>absurd ((by assumption:b=false).symm.trans (hbs.2 h)) (by decide)
  clear hbs
  obtain ⟨bK,hbK⟩:∃x,x=bN:=⟨_,rfl⟩
  rw [←hbK] at hA hH
  clear hbK bN
  refine yK (S:=Nat) (fun i a w=>∃oA cA,i≤fl.length∧HS w0 noM [cb bK 127 (zU ⟨oF,fl.length,cF,g,oA,i,cA,0,none,none,none,none⟩ 0),own 3 1 oA i cA (flat Fw.encI (yW (fl.take i))),cb b1 34 (xA oF fl.length cF g)] w∧Sl 126 [(67,.int .i64 i),(66,.int .i64 fl.length),(65,.slice oF fl.length cF),(5,.pointer (some (bat bK 0))),(1,.pointer (some (bat b1 0)))] a) (fun i=>fl.length - i)
    (fun a w=>∃oA cA,HS w0 noM [cb bK 127 (zU ⟨oF,fl.length,cF,g,oA,fl.length,cA,0,none,none,none,none⟩ 0),own 3 1 oA fl.length cA (flat Fw.encI (yW fl)),cb b1 34 (xA oF fl.length cF g)] w∧Sl 126 [(5,.pointer (some (bat bK 0))),(1,.pointer (some (bat b1 0)))] a) 0 ⟨none,0,Nat.zero_le _,(by rw [List.take_zero];exact (hH.nil_flat Fw.encI 3 1).perm PMT),(hA.sub SBT)⟩ ?_ ?_
  · clear hA hH
    rintro i a w ⟨oA,cA,hi,hH,hA⟩
    by_cases hlt:i<fl.length
    rotate_left
    · obtain rfl:i=fl.length:=by omega
      rw [List.take_length] at hH
      repeat' (first|(refine QT ?_;clear hA a;intro a hA)|refine CT ?_|(refine DT ?_ ?_<;>intro hc<;>try (exfalso;omega))|fail)
      exact ⟨oA,cA,hH,(hA.sub SBT)⟩
    obtain ⟨x,hx⟩:∃x,fl[i]?=some x:=⟨_,List.getElem?_eq_getElem hlt⟩
    have hvx:=yA vF hx
    have hcn:=eA hx
    obtain ⟨xc,⟨k',x',xs',n',ns',r',va',ko',kc',kids'⟩⟩:=x
    repeat' (first|(refine XT ?_;apply XE;(first|(apply zG (vs:=xX ⟨xc,.mk k' x' xs' n' ns' r' va' ko' kc' kids'⟩);rfl;rfl;exact yV hF id hvx)|(apply zE;rfl;rfl;omega;exact hspF));clear hA a;intro a hA)|(refine QT ?_;clear hA a;intro a hA)|(refine BT ?_;clear hA hH;rintro _ w ⟨bN,rfl,hH⟩ a hA)|(refine SAT (xX ⟨xc,.mk k' x' xs' n' ns' r' va' ko' kc' kids'⟩) hA hH ?_;clear hH;intro w hH)|refine CT ?_|(refine DT ?_ ?_<;>intro hc<;>try (exfalso;omega))|fail)
    have hST:HS w0 noM [cb bN 72 (xX ⟨xc,.mk k' x' xs' n' ns' r' va' ko' kc' kids'⟩),cb bK 127 (zU ⟨oF,fl.length,cF,g,oA,i,cA,0,none,none,none,none⟩ 0)] w:=HS.left (H1:=[_,_]) hH
    (refine zK (H:=[_,_]) [(0,1),(1,1),(2,1),(3,1),(4,1),(5,1),(6,1),(7,0),(8,0),(9,1),(10,1)] [11] mixed (by decide +kernel) (hST) ?_;replace hH:=hH.drew)
    clear hST
    repeat' (first|(refine QT ?_;clear hA a;intro a hA)|(refine DLT ?_;clear hA hH;rintro _ w ⟨oN,rfl,hH⟩;refine ⟨STT,?_⟩;intro a hA)|fail)
    (apply yO hA rfl rfl rfl (by decide);apply zZ;rfl;rfl;exact CATST;rfl;rfl;rfl;exact hH;clear hA hH;rintro _ w ⟨oN,rfl,hH⟩;refine ⟨HS.left (H1:=[_,_]) hH.tail,?_⟩;intro a hA)
    dsimp only at hA
    (apply yO hA rfl rfl rfl (by decide);apply yX;rfl;rfl;exact hH;exact MEMT;exact (hH.own_rd (List.Mem.head _));exact rfl;rfl;decide;exact rfl;(unfold maxLen;omega);omega;clear hA;rintro _ w ⟨oN,cN,rfl,hH2⟩;clear hH;have hH:=hH2 _ (by (repeat constructor));clear hH2;refine ⟨HS.left (H1:=[_,_]) hH.tail,?_⟩;intro a hA)
    rw [aO,←hcn] at hH
    repeat' (first|(refine QT ?_;clear hA a;intro a hA)|refine CT ?_|fail)
    (apply zX hA rfl rfl rfl;apply zB (cs':=zU ⟨oF,fl.length,cF,g,oN,i+1,cN,0,none,none,none,none⟩ 0);rfl;rfl;rfl;exact hH;(repeat constructor);clear hH;rintro _ w hH)
    repeat' (first|(refine QT ?_;clear hA a;intro a hA)|refine CT ?_|fail)
    exact ⟨i+1,⟨oN,cN,hlt,(((hH.rm 0).rm 0).perm PMT),(hA.sub SBT)⟩,by omega⟩
  clear hA hH
  rintro a w ⟨oA,cA,hH,hA⟩
  repeat' (first|(refine QT ?_;clear hA a;intro a hA)|refine CT ?_|fail)
  refine yK (S:=Nat) (fun i a w=>∃(cp:Int) (e n j o:Option Nat) (p:Int),(i≤fl.length∧0≤p∧p≤65536∧(∀c∈yW (fl.take i),0≤c∧c≤4096)∧qF g (yW fl) fl 0=qF g (yW fl) (fl.drop i) p)∧HS w0 noM [cb bK 127 (zU ⟨oF,fl.length,cF,g,oA,fl.length,cA,cp,e,n,j,o⟩ p),own 3 1 oA fl.length cA (flat Fw.encI (yW fl)),cb b1 34 (xA oF fl.length cF g)] w∧Sl 126 [(86,.int .i64 i),(85,.int .i64 fl.length),(84,.slice oF fl.length cF),(5,.pointer (some (bat bK 0)))] a) (fun i=>fl.length - i)
    (fun a w=>((∀c∈yW fl,0≤c∧c≤4096)∧∃p,qF g (yW fl) fl 0=some p)∧HS w0 noM [] w∧Sl 126 [] a) 0 ⟨0,none,none,none,none,0,⟨Nat.zero_le _,Int.le_refl _,by omega,(by rw [List.take_zero];exact fun c h=>absurd h List.not_mem_nil),rfl⟩,hH,(hA.sub SBT)⟩ ?_ ?_
  · clear hA hH
    rintro i a w ⟨cp,e,n,j,o,p,⟨hi,hp0,hp1,hcap,heq⟩,hH,hA⟩
    by_cases hlt:i<fl.length
    rotate_left
    · obtain rfl:i=fl.length:=by omega
      rw [List.take_length] at hcap
      rw [List.drop_length,qF] at heq
      repeat' (first|(refine QT ?_;clear hA a;intro a hA)|refine CT ?_|(refine DT ?_ ?_<;>intro hc<;>try (exfalso;omega))|fail)
      exact ⟨⟨hcap,p,heq⟩,hH.tail.tail.tail,(hA.sub SBT)⟩
    obtain ⟨x,hx⟩:∃x,fl[i]?=some x:=⟨_,List.getElem?_eq_getElem hlt⟩
    have hvx:=yA vF hx
    have hrx:=hr x (List.mem_of_getElem? hx)
    have hcn:=caps_okN hx hcap
    have hfy:=funs_yes (g:=g) (la:=yW fl) (p:=p) hx
    have hfn:=funs_no (g:=g) (la:=yW fl) (p:=p) hx
    obtain ⟨xc,⟨k',x',xs',n',ns',r',va',ko',kc',kids'⟩⟩:=x
    dsimp only at hcn hfy hfn hrx
    repeat' (first|(refine GT ?_ ?_<;>intro hg<;>clear hA a<;>intro a hA<;>(first|exact FA|replace hg:=dTr hg|replace hg:=dFa hg|skip))|(refine XT ?_;apply XE;(first|(apply zG (vs:=xX ⟨xc,.mk k' x' xs' n' ns' r' va' ko' kc' kids'⟩);rfl;rfl;exact yV hF id hvx)|(apply zE;rfl;rfl;omega;exact hspF));clear hA a;intro a hA)|(refine QT ?_;clear hA a;intro a hA)|(refine BT ?_;clear hA hH;rintro _ w ⟨bN,rfl,hH⟩ a hA)|(refine SAT (xX ⟨xc,.mk k' x' xs' n' ns' r' va' ko' kc' kids'⟩) hA hH ?_;clear hH;intro w hH)|(apply zO hA rfl rfl;apply zB (cs':=zU ⟨oF,fl.length,cF,g,oA,fl.length,cA,xc,e,n,j,o⟩ p);rfl;rfl;rfl;exact hH;(repeat constructor);clear hH;rintro _ w hH)|refine CT ?_|(refine DT ?_ ?_<;>intro hc<;>try (exfalso;omega))|fail)
    · exact rt1 (.inl rfl) rfl hA rfl ⟨_,rfl,gQ (heq.trans (hfn fun h=>(by dsimp only at *;omega))),hH.kp⟩
    · exact rt1 (.inl rfl) rfl hA rfl ⟨_,rfl,gQ (heq.trans (hfn fun h=>(by dsimp only at *;omega))),hH.kp⟩
    have hxx:0≤xc∧xc≤4096:=by dsimp only at *;omega
    rw [hfy hxx] at heq
    (refine zH hA rfl rfl (by decide) (wH hH) ?_;clear hA hH;rintro _ w ⟨m1,rfl,hH⟩ a hA)
    (refine zH hA rfl rfl (by decide) (wH hH) ?_;clear hA hH;rintro _ w ⟨m2,rfl,hH⟩ a hA)
    repeat' (first|(refine QT ?_;clear hA a;intro a hA)|(apply zO hA rfl rfl;apply gL;rfl;rfl;rfl;exact hH;(repeat constructor);clear hH;rintro _ w hH)|fail)
    (refine zH hA rfl rfl (by decide) (rM hH) ?_;clear hA hH;rintro _ w ⟨m3,rfl,hH⟩ a hA)
    (refine zH hA rfl rfl (by decide) (wH hH) ?_;clear hA hH;rintro _ w ⟨m4,rfl,hH⟩ a hA)
    have e01:sG (sG [] 0) 1=[0,1]:=by decide
    rw [e01] at hH
    repeat' (first|(refine QT ?_;clear hA a;intro a hA)|(apply zO hA rfl rfl;apply zB (cs':=zU ⟨oF,fl.length,cF,g,oA,fl.length,cA,xc,some m1,n,j,o⟩ p);rfl;rfl;rfl;exact hH;(repeat constructor);clear hH;rintro _ w hH)|(apply zO hA rfl rfl;apply zB (cs':=zU ⟨oF,fl.length,cF,g,oA,fl.length,cA,xc,some m1,some m2,j,o⟩ p);rfl;rfl;rfl;exact hH;(repeat constructor);clear hH;rintro _ w hH)|(apply zO hA rfl rfl;apply zB (cs':=zU ⟨oF,fl.length,cF,g,oA,fl.length,cA,xc,some m1,some m2,some m3,o⟩ p);rfl;rfl;rfl;exact hH;(repeat constructor);clear hH;rintro _ w hH)|(apply zO hA rfl rfl;apply zB (cs':=zU ⟨oF,fl.length,cF,g,oA,fl.length,cA,xc,some m1,some m2,some m3,some m4⟩ p);rfl;rfl;rfl;exact hH;(repeat constructor);clear hH;rintro _ w hH)|refine CT ?_|fail)
    repeat' (first|(refine XT ?_;apply XE;(first|(apply zG (vs:=xF (.mk k' x' xs' n' ns' r' va' ko' kc' kids'));rfl;rfl;exact rW MEMT (sub_bdN ⟨xc,.mk k' x' xs' n' ns' r' va' ko' kc' kids'⟩)));clear hA a;intro a hA)|(refine QT ?_;clear hA a;intro a hA)|fail)
    have hs0:=aY hp0 hp1
    have hBC:=bodyC_all w0 ⟨oF,fl.length,cF,g,oA,fl.length,cA,xc,some m1,some m2,some m3,some m4⟩ (yW fl) bK m1 m2 m3 m4 rfl rfl rfl rfl hcsl.symm (by omega) hrx
    obtain ⟨bF,hbF⟩:∃x,x=bN:=⟨_,rfl⟩
    rw [←hbF] at hA hH
    clear hbF bN
    (refine zH hA rfl rfl (by decide) (zA rfl rfl rfl (hBC [own 3 1 oA fl.length cA (flat Fw.encI (yW fl)),cb bF 72 (xX ⟨xc,.mk k' x' xs' n' ns' r' va' ko' kc' kids'⟩),cb b1 34 (xA oF fl.length cF g)] _ 1 (cs0 p) (.head _) hs0 (by omega) (by omega) (hH.perm PMT))) ?_;clear hA hH)
    rintro _ w (⟨s',he,rfl,hH⟩| ⟨he,rfl,s',hH⟩) a hA
    · have he':xL g (yW fl) xc (.mk k' x' xs' n' ns' r' va' ko' kc' kids') 1 (cs0 p)=some s':=he
      have hs':=uE _ _ _ _ hs0 he'
      rw [he',Option.bind_some] at heq
      repeat' (first|(refine QT ?_;clear hA a;intro a hA)|refine CT ?_|fail)
      exact ⟨i+1,⟨xc,_,_,_,_,s'.p,⟨hlt,hs'.p0,hs'.p1,hcn hxx,heq⟩,(hH.rm 1 |>.rm 1 |>.rm 1 |>.rm 1 |>.rm 2),(hA.sub SBT)⟩,by omega⟩
    · have he':xL g (yW fl) xc (.mk k' x' xs' n' ns' r' va' ko' kc' kids') 1 (cs0 p)=none:=he
      rw [he',Option.bind_none] at heq
      repeat' (first|(refine QT ?_;clear hA a;intro a hA)|refine CT ?_|fail)
      exact rt1 (.inl rfl) rfl hA rfl ⟨_,rfl,gQ heq,hH.kp⟩
  clear hA hH
  rintro a w ⟨⟨hcap,hfu⟩,hH,hA⟩
  repeat' (first|(refine QT ?_;clear hA a;intro a hA)|refine CT ?_|fail)
  exact rt1 (.inl rfl) rfl hA rfl ⟨_,rfl,iff_of_true rfl ⟨⟨hcl2,hcl4,hc0,hp1,hp2,hp3,hx4,hss4,hcap⟩,hfu⟩,hH.kp⟩
end
mutual
def sI:AN→Int→Int
  | .mk _ _ _ _ _ r a _ _ kids,most=>vE kids most (1+a.l.length+r.a.l.length)
def vE:List AN→Int→Int→Int
  | [],_,n=>n
  |b::l,most,n=>if n<most then vE l most (n+sI b (most - n)) else n
end
theorem partsK_stop {l:List AN} {most n:Int} (h:¬n<most):vE l most n=n:=by
  cases l with
  |nil=>rw [vE]
  |cons b l=>rw [vE,if_neg h]
theorem partsK_at {l:List AN} {i:Nat} {b:AN} {most n:Int} (h:l[i]?=some b) (hn:n<most):vE (l.drop i) most n=vE (l.drop (i+1)) most (n+sI b (most - n)):=by
  obtain ⟨hi,rfl⟩:=List.getElem?_eq_some_iff.1 h
  rw [List.drop_eq_getElem_cons hi,vE,if_pos hn]
def vN:List FN→Int→Int→Int
  | [],_,n=>n
  |f::l,most,n=>if n<most then vN l most (n+sI f.body (most - n)) else n
theorem progK_stop {l:List FN} {most n:Int} (h:¬n<most):vN l most n=n:=by
  cases l with
  |nil=>rw [vN]
  |cons b l=>rw [vN,if_neg h]
theorem progK_at {l:List FN} {i:Nat} {f:FN} {most n:Int} (h:l[i]?=some f) (hn:n<most):vN (l.drop i) most n=vN (l.drop (i+1)) most (n+sI f.body (most - n)):=by
  obtain ⟨hi,rfl⟩:=List.getElem?_eq_some_iff.1 h
  rw [List.drop_eq_getElem_cons hi,vN,if_pos hn]
theorem fn_body {l:List FN} {i:Nat} {f:FN} (h:l[i]?=some f) (j:Nat) (v:Value) (hv:(xF f.body)[j]?=some v):(flat xX l)[i*12+1+j]?=some v:=by
  rw [Nat.add_assoc]
  exact yZ (off:=1+j) vF h (by unfold xX;rw [Nat.add_comm];exact hv)
section
attribute [local irreducible] Code.wp wpList Calls Ex Op1 sat bat blk cb own Go.Fw.mp Go.Fw.mpO Go.Fw.mpI Go.Fw.mpE Go.Fw.itr HS Rd Ret wkD Hp Cl Cls Exit.then Exit.inBlock Exit.noGoto bodyPost Go.Fw.flat wk2 Go.Fw.all Go.Fw.owns wpOp
attribute [local irreducible] sk mpK sko mvO xI

theorem eE {wr:World} {b:AN} (hR:RdN wr b):∀(w0:World) (most:Int),Kp wr noM w0→1≤most→most≤1000000→(0≤sI b most∧sI b most≤most+70368744177664)∧Ret Tryz.prog 72 #[.agg (xF b).toArray,.int .i64 most] w0 (fun r w=>r= .int .i64 (sI b most)∧Kp w0 noM w):=by
  induction hR with
  | @mk k x n xs ns r va ko kc kids h1 h2 h3 h4 h5 h6 h7 ih=>
  intro w0 most hkp hm1 hm2
  have hal:=h5.2
  have hrl:=h4.2
  have hkl:=h6.2
  have hkr:=h6.1.keep hkp
  have hkey:∀(l:List AN),(∀b∈l,b∈kids)→∀n,0≤n→n≤most+70368744177664→0≤vE l most n∧vE l most n≤most+70368744177664:=by
    intro l
    induction l with
    |nil=>intro _ n h0 h1;rw [vE];exact ⟨h0,h1⟩
    | cons b l ihl=>
      intro hl n h0 h1
      rw [vE]
      split
      · next hn=>
        have h8:=(ih b (hl b (List.Mem.head _)) w0 (most - n) hkp (by omega) (by omega)).1
        exact ihl (fun b hb=>hl b (List.Mem.tail _ hb)) _ (by omega) (by omega)
      · exact ⟨h0,h1⟩
  refine ⟨by rw [sI];exact hkey kids (fun b h=>h) _ (by omega) (by omega),?_⟩
  rw [sI]
  have hsp:Sp ko kids.length:=hkr.1.sp (sz:=11) (zF wN _) (by omega)
  have hH:HS w0 noM [] w0:=HS.init w0 noM
  (refine ENT (N:=40) Tryz.func72 Tryz.ntmps72 ?_;intro a hA)
  repeat refine CT ?_
  (refine BT ?_;clear hA hH;rintro _ w ⟨b2,rfl,hH⟩ a hA)
  repeat' (first|(refine QT ?_;clear hA a;intro a hA)|refine CT ?_|fail)
  refine yK (S:=Nat × Int) (fun t a w=>(t.1≤kids.length∧0≤t.2∧t.2≤most+70368744177664∧vE kids most (1+va.l.length+r.a.l.length)=vE (kids.drop t.1) most t.2)∧HS w0 noM [cb b2 70 (xF (.mk k x xs n ns r va ko kc kids))] w∧Sl 40 [(6,.int .i64 t.1),(5,.int .i64 t.2),(2,.pointer (some (bat b2 0))),(1,.int .i64 most)] a) (fun t=>kids.length - t.1)
    (fun a w=>HS w0 noM [] w∧Sl 40 [(5,.int .i64 (vE kids most (1+va.l.length+r.a.l.length)))] a) (0,1+va.l.length+r.a.l.length) ⟨⟨Nat.zero_le _,by dsimp only;omega,by dsimp only;omega,rfl⟩,hH,(hA.sub SBT)⟩ ?_ ?_
  · clear hA hH
    rintro ⟨i,m⟩ a w ⟨⟨hi,hm0,hm3,heq⟩,hH,hA⟩
    dsimp only at hi hm0 hm3 heq hH hA ⊢
    by_cases hlt:i<kids.length
    rotate_left
    · obtain rfl:i=kids.length:=by omega
      rw [List.drop_length,vE] at heq
      rw [heq]
      repeat' (first|(refine GT ?_ ?_<;>intro hg<;>clear hA a<;>intro a hA<;>(first|exact FA|replace hg:=dTr hg|replace hg:=dFa hg|skip))|(refine QT ?_;clear hA a;intro a hA)|refine CT ?_|fail)
      exact ⟨hH.tail,(hA.sub SBT)⟩
    obtain ⟨y,hy⟩:∃y,kids[i]?=some y:=⟨_,List.getElem?_eq_getElem hlt⟩
    have hvs:=yA wN hy
    have hb:=ih y (List.mem_of_getElem? hy)
    by_cases hmm:m<most
    rotate_left
    · rw [partsK_stop hmm] at heq
      rw [heq]
      repeat' (first|(refine GT ?_ ?_<;>intro hg<;>clear hA a<;>intro a hA<;>(first|exact FA|replace hg:=dTr hg|replace hg:=dFa hg|skip))|(refine QT ?_;clear hA a;intro a hA)|refine CT ?_|(refine DT ?_ ?_<;>intro hc<;>try (exfalso;omega))|fail)
      exact ⟨hH.tail,(hA.sub SBT)⟩
    rw [partsK_at hy hmm] at heq
    have h8:=(hb w (most - m) (hkp.trans hH.kp (fun b h=>absurd h id)) (by omega) (by omega))
    obtain ⟨k',x',xs',n',ns',r',va',ko',kc',kids'⟩:=y
    repeat' (first|(refine GT ?_ ?_<;>intro hg<;>clear hA a<;>intro a hA<;>(first|exact FA|replace hg:=dTr hg|replace hg:=dFa hg|skip))|(refine XT ?_;apply XE;(first|(apply zE;rfl;rfl;omega;exact hsp)|(apply zG (vs:=xF (.mk k' x' xs' n' ns' r' va' ko' kc' kids'));rfl;rfl;exact yV hkr.1 id hvs));clear hA a;intro a hA)|(refine QT ?_;clear hA a;intro a hA)|refine CT ?_|(refine DT ?_ ?_<;>intro hc<;>try (exfalso;omega))|fail)
    (refine zH hA rfl rfl (by decide) (zA rfl rfl rfl h8.2) ?_;clear hA;rintro _ w ⟨rfl,hk⟩ a hA;replace hH:=hH.keep hk;clear hk)
    repeat' (first|(refine QT ?_;clear hA a;intro a hA)|refine CT ?_|fail)
    exact ⟨(i+1,_),⟨⟨hlt,by dsimp only;omega,by dsimp only;omega,heq⟩,hH,(hA.sub SBT)⟩,by dsimp only;omega⟩
  clear hA hH
  rintro a w ⟨hH,hA⟩
  repeat' (first|(refine QT ?_;clear hA a;intro a hA)|refine CT ?_|fail)
  exact rt1 (.inl rfl) rfl hA rfl ⟨rfl,hH.kp⟩
theorem PartsN_spec (w0:World) (oF:Option Addr) (cF:Nat) (fl:List FN) (g:Grs) (most:Int) (hF:Rd w0 oF (flat xX fl)) (hr:∀f∈fl,RdN w0 f.body) (hcl:fl.length≤17592186044416) (hm1:1≤most) (hm2:most≤1000000) :
    Ret Tryz.prog 38 #[.agg (xA oF fl.length cF g).toArray,.int .i64 most] w0 (fun r w=>r= .int .i64 (vN fl most 0)∧Kp w0 noM w):=by
  have hsp:Sp oF fl.length:=hF.sp (sz:=12) (zF vF _) (by omega)
  have hH:HS w0 noM [] w0:=HS.init w0 noM
  (refine ENT (N:=32) Tryz.func38 Tryz.ntmps38 ?_;intro a hA)
  repeat refine CT ?_
  (refine BT ?_;clear hA hH;rintro _ w ⟨b2,rfl,hH⟩ a hA)
  repeat' (first|(refine QT ?_;clear hA a;intro a hA)|refine CT ?_|fail)
  refine yK (S:=Nat × Int) (fun t a w=>(t.1≤fl.length∧0≤t.2∧t.2≤most+70368744177664∧vN fl most 0=vN (fl.drop t.1) most t.2)∧HS w0 noM [cb b2 34 (xA oF fl.length cF g)] w∧Sl 32 [(6,.int .i64 t.1),(5,.int .i64 t.2),(2,.pointer (some (bat b2 0))),(1,.int .i64 most)] a) (fun t=>fl.length - t.1)
    (fun a w=>HS w0 noM [] w∧Sl 32 [(5,.int .i64 (vN fl most 0))] a) (0,0) ⟨⟨Nat.zero_le _,by dsimp only;omega,by dsimp only;omega,rfl⟩,hH,(hA.sub SBT)⟩ ?_ ?_
  · clear hA hH
    rintro ⟨i,m⟩ a w ⟨⟨hi,hm0,hm3,heq⟩,hH,hA⟩
    dsimp only at hi hm0 hm3 heq hH hA ⊢
    by_cases hlt:i<fl.length
    rotate_left
    · obtain rfl:i=fl.length:=by omega
      rw [List.drop_length,vN] at heq
      rw [heq]
      repeat' (first|(refine GT ?_ ?_<;>intro hg<;>clear hA a<;>intro a hA<;>(first|exact FA|replace hg:=dTr hg|replace hg:=dFa hg|skip))|(refine QT ?_;clear hA a;intro a hA)|refine CT ?_|fail)
      exact ⟨hH.tail,(hA.sub SBT)⟩
    obtain ⟨y,hy⟩:∃y,fl[i]?=some y:=⟨_,List.getElem?_eq_getElem hlt⟩
    have hvs:=fn_body hy
    by_cases hmm:m<most
    rotate_left
    · rw [progK_stop hmm] at heq
      rw [heq]
      repeat' (first|(refine GT ?_ ?_<;>intro hg<;>clear hA a<;>intro a hA<;>(first|exact FA|replace hg:=dTr hg|replace hg:=dFa hg|skip))|(refine QT ?_;clear hA a;intro a hA)|refine CT ?_|(refine DT ?_ ?_<;>intro hc<;>try (exfalso;omega))|fail)
      exact ⟨hH.tail,(hA.sub SBT)⟩
    rw [progK_at hy hmm] at heq
    have h8:=eE (hr y (List.mem_of_getElem? hy)) w (most - m) hH.kp (by omega) (by omega)
    obtain ⟨yc,⟨k',x',xs',n',ns',r',va',ko',kc',kids'⟩⟩:=y
    dsimp only at hvs h8 heq
    repeat' (first|(refine GT ?_ ?_<;>intro hg<;>clear hA a<;>intro a hA<;>(first|exact FA|replace hg:=dTr hg|replace hg:=dFa hg|skip))|(refine XT ?_;apply XE;(first|(apply zE;rfl;rfl;omega;exact hsp)|(apply zG (vs:=xF (.mk k' x' xs' n' ns' r' va' ko' kc' kids'));rfl;rfl;exact yV hF id hvs));clear hA a;intro a hA)|(refine QT ?_;clear hA a;intro a hA)|refine CT ?_|(refine DT ?_ ?_<;>intro hc<;>try (exfalso;omega))|fail)
    (refine zH hA rfl rfl (by decide) (zA rfl rfl rfl h8.2) ?_;clear hA;rintro _ w ⟨rfl,hk⟩ a hA;replace hH:=hH.keep hk;clear hk)
    repeat' (first|(refine QT ?_;clear hA a;intro a hA)|refine CT ?_|fail)
    exact ⟨(i+1,_),⟨⟨hlt,by dsimp only;omega,by dsimp only;omega,heq⟩,hH,(hA.sub SBT)⟩,by dsimp only;omega⟩
  clear hA hH
  rintro a w ⟨hH,hA⟩
  repeat' (first|(refine QT ?_;clear hA a;intro a hA)|refine CT ?_|fail)
  exact rt1 (.inl rfl) rfl hA rfl ⟨rfl,hH.kp⟩
end
end Go.Proofs.YtenlcdokaadobaaGreatDoor
