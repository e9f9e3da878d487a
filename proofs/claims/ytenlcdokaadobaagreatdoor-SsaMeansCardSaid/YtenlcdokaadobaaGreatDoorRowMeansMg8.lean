/-
  The walk over slices.Insert of one value. Conditions: none.
  slices.Clone, slices.Repeat of one value. Conditions: none.
  What steps do with arrays. Conditions: none.
  What operations do. Conditions: none.
  rt's Plain: moves, operations, closures, records, tags, texts alike. Conditions: none.
  rt's Plain: a record's field, a record with a field. Conditions: none.
  A region whose operations come up in one of several orders, and some of which come last. Conditions: none.
-/
import Derived.Test.YtenlcdokaadobaaGreatDoorRowMeansMg7
import Derived.Test.YtenlcdokaadobaaGreatDoorRowMeansMg5
set_option maxHeartbeats 64000000
set_option maxRecDepth 10000
namespace Go.Proofs.YtenlcdokaadobaaGreatDoor
open Go Go.Fw
set_option linter.unusedVariables false
section
attribute [local irreducible] Code.wp wpList Calls Ex Op1 sat bat blk cb own Go.Fw.mp Go.Fw.mpO Go.Fw.mpI Go.Fw.mpE Go.Fw.itr HS Rd Ret wkD Hp Cl Cls Exit.then Exit.inBlock Exit.noGoto bodyPost Go.Fw.flat wk2 Go.Fw.all Go.Fw.owns wpOp

theorem aF (w0:World) (M:Nat→Prop) (o ov:Option Addr) (c i:Nat) (fr:List Value) (r:Value) (hH:HS w0 M [own 137 1 o fr.length c (flat yR fr),own 137 1 ov 1 1 (yR r)] w0) (hi:i≤fr.length) (hl:fr.length≤1048576) (h1r:(yR r).all (·.oneCell')=true) (hall:∀l,l=fr.drop i→(flat yR l).all (·.oneCell')=true) :
    Ret Tryz.prog 96 #[.slice o fr.length c,.int .i64 i,.slice ov 1 1] w0
      (fun v w=>∃o' c',v= .slice o' (fr.length+1) c'∧HS w0 M [own 137 1 o' (fr.length+1) c' (flat yR (sP fr i r))] w):=by
  have hle:=hH.own_le (o:=o) (by exact MEMT)
  obtain ⟨bv,spv,rfl,-,-,hv3,hv4,hHv⟩:=(hH.perm (.swap _ _ _)).own_block (by omega)
  have hspv:spv=[]:=List.length_eq_zero_iff.1 (by rw [vP] at hv4;omega)
  subst hspv
  rw [List.append_nil] at hHv
  replace hH:=hHv.perm (.swap _ _ _)
  clear hHv
  by_cases hin:i=fr.length
  · subst hin
    have hrv:Rd w0 (some (bat bv 0)) (yR r):=by
      have:=hH.cb_rd (b:=bv) (by exact MEMT) 0
      rwa [List.drop_zero] at this
    (refine ENT (N:=95) Tryz.func96 Tryz.ntmps96 ?_;intro a hA)
    repeat' (first|(refine XT ?_;apply XE;(first|(apply rO (k:=fr.length);rfl;rfl;rfl;omega));clear hA a;intro a hA)|(refine QT ?_;clear hA a;intro a hA)|(apply zH hA rfl rfl (by decide);apply yX;rfl;rfl;exact hH;exact MEMT;exact hrv;exact vP r;rfl;decide;exact h1r;(unfold maxLen;omega);omega;clear hA;rintro _ w ⟨oN,cN,rfl,hH2⟩ a hA;clear hH;have hH:=hH2 _ (by (repeat constructor));clear hH2)|refine CT ?_|(refine DT ?_ ?_<;>intro hc<;>try (exfalso;omega))|fail)
    have e:flat yR fr++yR r=flat yR (sP fr fr.length r):=by
      unfold sP
      rw [List.take_length,List.drop_length,←xZ]
    rw [e] at hH
    exact rt1 (.inl rfl) rfl hA rfl ⟨_,_,rfl,hH.head⟩
  have hlt:i<fr.length:=by omega
  obtain ⟨b,spare,rfl,h1,h2,h3,h4,hH⟩:=hH.own_block (by omega)
  have hne:=hH.cb_ne
  have hlen:(flat yR fr++spare).length=c*1:=by rw [List.length_append];exact h4
  have hA_:(flat yR (fr.take i)).length=i*1:=by rw [zF vP,List.length_take];omega
  have hB_:(flat yR (fr.drop i)).length=(fr.length - i)*1:=by rw [zF vP,List.length_drop]
  have hsplit:flat yR fr=flat yR (fr.take i)++flat yR (fr.drop i):=by rw [←tE,List.take_append_drop]
  have hins:flat yR (sP fr i r)=flat yR (fr.take i)++(yR r++flat yR (fr.drop i)):=by
    unfold sP
    rw [tE,dQ]
  have hq1:(if c=i then 0 else 0+i*1)=i*1:=by rw [if_neg (by omega),Nat.zero_add]
  by_cases hroom:fr.length+1≤c
  rotate_left
  · -- into a new block
    (refine ENT (N:=95) Tryz.func96 Tryz.ntmps96 ?_;intro a hA)
    repeat' (first|(refine XT ?_;apply XE;(first|(apply yM (k:=i) (q:=i*1);rfl;rfl;rfl;omega;exact hq1)|(apply wY (k:=i);rfl;rfl;rfl;omega)|(apply sR;rfl));clear hA a;intro a hA)|(refine QT ?_;clear hA a;intro a hA)|refine CT ?_|(refine DT ?_ ?_<;>intro hc<;>try (exfalso;omega))|fail)
    have holds:∀j u,(flat yR (fr.take i))[j]?=some u→w0.cell? ((bat b 0).add j)=some u:=by
      intro j u hj
      have:=hH.cb_news (b:=b) (k:=0) (m:=(flat yR (fr.take i)).length) (List.mem_cons_self ..) j u
      have e5:((flat yR fr++spare).drop 0).take (flat yR (fr.take i)).length=flat yR (fr.take i):=by
        rw [List.drop_zero,hsplit,List.append_assoc,List.take_append_of_le_length (Nat.le_refl _),List.take_length]
      rw [e5] at this
      exact this hj
    repeat' (first|(refine QT ?_;clear hA a;intro a hA)|(apply zH hA rfl rfl (by decide);apply mQ (k:=fr.length+1 - i);rfl;rfl;omega;exact hH;exact holds;exact hA_;rfl;omega;omega;(unfold maxLen;omega);omega;omega;clear hA;rintro _ w ⟨o2,c2,rest,rfl,hrest,hH2⟩ a hA)|fail)
    have en:i+(fr.length+1 - i)=fr.length+1:=by omega
    rw [en] at hA hH2
    have hle2:=hH2.own_le (o:=o2) (by exact MEMT)
    obtain ⟨b2,sp2,rfl,k1,k2,k3,k4,hH3⟩:=hH2.own_block (by omega)
    clear hH hH2
    have hH:=hH3
    clear hH3
    have hq3:(if c2=i then 0 else 0+i*1)=i*1:=by rw [if_neg (by omega),Nat.zero_add]
    have hq4:(if c2=i+1 then 0 else 0+(i+1)*1)=(i+1)*1:=by rw [if_neg (by omega),Nat.zero_add]
    have hrv:∀j u,(yR r)[j]?=some u→w.cell? ((bat bv 0).add j)=some u:=by
      intro j u hj
      have:=hH.cb_news (b:=bv) (k:=0) (m:=(yR r).length) (by exact MEMT) j u
      rw [List.drop_zero,List.take_length] at this
      exact this hj
    have hl1:(yR r).length=Nat.min 1 (fr.length+1 - i)*1:=by rw [show Nat.min 1 (fr.length+1 - i)=1 by show min 1 (fr.length+1 - i)=1;omega];rfl
    have hf1:i*1+(yR r).length≤(flat yR (fr.take i)++rest++sp2).length:=by
      rw [List.length_append,List.length_append,hA_,hrest,vP];omega
    repeat' (first|(refine XT ?_;apply XE;(first|(apply yM (k:=i) (q:=i*1);rfl;rfl;rfl;omega;exact hq3));clear hA a;intro a hA)|(refine QT ?_;clear hA a;intro a hA)|(apply zH hA rfl rfl (by decide);apply vK;rfl;rfl;exact hH;exact hrv;exact hl1;exact h1r;exact hf1;(repeat constructor);clear hA hH;rintro _ w ⟨rfl,hH⟩ a hA)|refine CT ?_|fail)
    have hB5:((flat yR fr++spare).drop (i*1)).take (flat yR (fr.drop i)).length=flat yR (fr.drop i):=by
      have:=@mU (flat yR (fr.take i)) [] (flat yR (fr.drop i)) spare
      rw [List.length_nil,Nat.add_zero,hA_,List.nil_append,←List.append_assoc,←hsplit] at this
      exact this
    have hl2:(flat yR (fr.drop i)).length=Nat.min (fr.length - i) (fr.length+1 - (i+1))*1:=by
      rw [hB_,show Nat.min (fr.length - i) (fr.length+1 - (i+1))=fr.length - i by show min (fr.length - i) (fr.length+1 - (i+1))=_;omega]
    have hpl:(put (flat yR (fr.take i)++rest++sp2) (i*1) (yR r)).length=c2*1:=by rw [vX hf1,List.length_append];exact k4
    have hf2:(i+1)*1+(flat yR (fr.drop i)).length≤(put (flat yR (fr.take i)++rest++sp2) (i*1) (yR r)).length:=by rw [hpl,hB_];omega
    have hone:(flat yR (fr.drop i)).all (·.oneCell')=true:=hall _ rfl
    (refine zQ [(0,2),(1,2),(2,2),(3,2),(4,2),(5,2),(6,2),(7,2),(8,0)] mixed (by decide +kernel) hH.drop_ ?_;replace hH:=hH.drew)
    have hrB:∀j u,(flat yR (fr.drop i))[j]?=some u→w.drew.cell? ((bat b (i*1)).add j)=some u:=by
      intro j u hj
      have:=hH.cb_news (b:=b) (k:=i*1) (m:=(flat yR (fr.drop i)).length) (by exact MEMT) j u
      rw [hB5] at this
      exact this hj
    repeat' (first|(refine XT ?_;apply XE;(first|(apply yM (k:=i+1) (q:=(i+1)*1);rfl;rfl;rfl;omega;exact hq4)|(apply yM (k:=i) (q:=i*1);rfl;rfl;rfl;omega;exact hq1));clear hA a;intro a hA)|(refine QT ?_;clear hA a;intro a hA)|refine CT ?_|(apply yO hA rfl rfl rfl (by decide);apply vK;rfl;rfl;exact hH;exact hrB;exact hl2;exact hone;exact hf2;(repeat constructor);clear hA hH;rintro _ w ⟨rfl,hH⟩;refine ⟨STT,?_⟩;intro a hA)|fail)
    have hrest2:rest.length=1+(fr.length - i)*1:=by rw [hrest];omega
    have e7:put (put (flat yR (fr.take i)++rest++sp2) (i*1) (yR r)) ((i+1)*1) (flat yR (fr.drop i))=flat yR (sP fr i r)++sp2:=by
      have e8:flat yR (fr.take i)++rest++sp2=flat yR (fr.take i)++(rest.take 1++(rest.drop 1++sp2)):=by
        rw [←List.append_assoc (rest.take 1),List.take_append_drop,List.append_assoc]
      rw [e8,qL hA_.symm (by rw [vP,List.length_take];omega),←List.append_assoc (flat yR (fr.take i)),qL (by rw [List.length_append,hA_,vP];omega) (by rw [hB_,List.length_drop];omega),hins]
      simp
    rw [e7] at hH
    have hil:(flat yR (sP fr i r)).length=(fr.length+1)*1:=by rw [zF vP,qB hi]
    refine rt1 (.inl rfl) rfl hA rfl ⟨_,_,rfl,(hH.head).block_own hil k1 k2 ?_⟩
    rw [hil,←k3]
    exact k4
  · (refine ENT (N:=95) Tryz.func96 Tryz.ntmps96 ?_;intro a hA)
    repeat' (first|(refine XT ?_;apply XE;(first|(apply yM (k:=i) (q:=i*1);rfl;rfl;rfl;omega;exact hq1)|(apply wY (k:=fr.length+1);rfl;rfl;rfl;omega)|(apply sR;rfl));clear hA a;intro a hA)|(refine QT ?_;clear hA a;intro a hA)|refine CT ?_|(refine DT ?_ ?_<;>intro hc<;>try (exfalso;omega))|fail)
    have hsp2:1≤spare.length:=by rw [List.length_append,h3] at hlen;omega
    have hq2:(if c=i+1 then 0 else 0+(i+1)*1)=(i+1)*1:=by rw [if_neg (by omega),Nat.zero_add]
    have hc2:(flat yR fr++spare).length≠0:=by rw [hlen];omega
    repeat' (first|(refine XT ?_;apply XE;(first|(apply yM (k:=i+1) (q:=(i+1)*1);rfl;rfl;rfl;omega;exact hq2));clear hA a;intro a hA)|(refine QT ?_;clear hA a;intro a hA)|(apply zH hA rfl rfl (by decide);apply kR (t:=88) (tR:=4) Tryz.func120 (by kernel_rfl) (by kernel_rfl) (by kernel_rfl) (by kernel_rfl);rfl;rfl;exact hH;exact MEMT;exact MEMT;exact Ne.symm hne;exact hc2;clear hA;rintro _ w2 ⟨rfl,hw2⟩ a hA;rw [hw2];clear hw2 w2)|refine CT ?_|fail)
    have hB5:((flat yR fr++spare).drop (i*1)).take (flat yR (fr.drop i)).length=flat yR (fr.drop i):=by
      have:=@mU (flat yR (fr.take i)) [] (flat yR (fr.drop i)) spare
      rw [List.length_nil,Nat.add_zero,hA_,List.nil_append,←List.append_assoc,←hsplit] at this
      exact this
    have hl2:(flat yR (fr.drop i)).length=Nat.min (fr.length+1 - i) (fr.length+1 - (i+1))*1:=by
      rw [hB_,show Nat.min (fr.length+1 - i) (fr.length+1 - (i+1))=fr.length - i by show min (fr.length+1 - i) (fr.length+1 - (i+1))=_;omega]
    have hf2:(i+1)*1+(flat yR (fr.drop i)).length≤(flat yR fr++spare).length:=by rw [hlen,hB_];omega
    have hone:(flat yR (fr.drop i)).all (·.oneCell')=true:=hall _ rfl
    (refine zQ [(0,2),(1,2),(2,2),(3,2),(4,2),(5,2),(6,2),(7,2),(8,0)] mixed (by decide +kernel) hH.drop_ ?_;replace hH:=hH.drew)
    have hrB:∀j u,(flat yR (fr.drop i))[j]?=some u→w0.drew.cell? ((bat b (i*1)).add j)=some u:=by
      intro j u hj
      have:=hH.cb_news (b:=b) (k:=i*1) (m:=(flat yR (fr.drop i)).length) (by exact MEMT) j u
      rw [hB5] at this
      exact this hj
    repeat' (first|(refine XT ?_;apply XE;(first|(apply yM (k:=i+1) (q:=(i+1)*1);rfl;rfl;rfl;omega;exact hq2)|(apply yM (k:=i) (q:=i*1);rfl;rfl;rfl;omega;exact hq1));clear hA a;intro a hA)|(refine QT ?_;clear hA a;intro a hA)|refine CT ?_|(apply yO hA rfl rfl rfl (by decide);apply vK;rfl;rfl;exact hH;exact hrB;exact hl2;exact hone;exact hf2;(repeat constructor);clear hA hH;rintro _ w ⟨rfl,hH⟩;refine ⟨STT,?_⟩;intro a hA)|fail)
    have hrv:∀j u,(yR r)[j]?=some u→w.cell? ((bat bv 0).add j)=some u:=by
      intro j u hj
      have:=hH.cb_news (b:=bv) (k:=0) (m:=(yR r).length) (by exact MEMT) j u
      rw [List.drop_zero,List.take_length] at this
      exact this hj
    have hl1:(yR r).length=Nat.min 1 (fr.length+1 - i)*1:=by rw [show Nat.min 1 (fr.length+1 - i)=1 by show min 1 (fr.length+1 - i)=1;omega];rfl
    have hf1:i*1+(yR r).length≤(put (flat yR fr++spare) ((i+1)*1) (flat yR (fr.drop i))).length:=by
      rw [vX hf2,hlen,vP];omega
    repeat' (first|(refine QT ?_;clear hA a;intro a hA)|(apply zH hA rfl rfl (by decide);apply vK;rfl;rfl;exact hH;exact hrv;exact hl1;exact h1r;exact hf1;(repeat constructor);clear hA hH;rintro _ w ⟨rfl,hH⟩ a hA)|refine CT ?_|fail)
    have e7:put (put (flat yR fr++spare) ((i+1)*1) (flat yR (fr.drop i))) (i*1) (yR r)=flat yR (sP fr i r)++spare.drop 1:=by
      have e8:flat yR fr++spare=flat yR (fr.take i)++(flat yR (fr.drop i)++(spare.take 1++spare.drop 1)):=by
        rw [List.take_append_drop,←List.append_assoc,←hsplit]
      have e9:=@dM (flat yR (fr.take i)) (yR r) (flat yR (fr.drop i)) (spare.take 1) (spare.drop 1) (by rw [vP,List.length_take];omega)
      rw [hA_,vP,show i*1+1=(i+1)*1 by omega] at e9
      rw [e8,e9,hins]
    rw [e7] at hH
    have hil:(flat yR (sP fr i r)).length=(fr.length+1)*1:=by rw [zF vP,qB hi]
    refine rt1 (.inl rfl) rfl hA rfl ⟨_,_,rfl,(hH.head).block_own hil hroom h2 ?_⟩
    rw [hil,List.length_drop]
    omega
end
theorem and_low {a:Nat} (h:a≤1000000):andK .u64 (a:Int) 4294967295=(a:Int):=by
  unfold andK
  have e1:(BitVec.ofInt IntKind.u64.bits (a:Int) &&& BitVec.ofInt IntKind.u64.bits 4294967295).toNat=a:=by
    show (BitVec.ofInt 64 (a:Int) &&& BitVec.ofInt 64 4294967295).toNat=a
    rw [BitVec.toNat_and]
    have h1:(BitVec.ofInt 64 (a:Int)).toNat=a:=by
      rw [BitVec.toNat_ofInt]
      omega
    have h2:(BitVec.ofInt 64 4294967295).toNat=2 ^ 32 - 1:=by decide
    rw [h1,h2,Nat.and_two_pow_sub_one_eq_mod]
    omega
  rw [e1]
  exact IntWalk.u64_in _ ⟨by omega,by omega⟩
theorem cX {a:Nat} (h:a≤1000000):nU .u64 (a:Int) 32=0:=by
  unfold nU
  have:min (Int.toNat 32) IntKind.u64.bits=32:=by decide
  rw [this,Int.fdiv_eq_ediv_of_nonneg _ (by decide)]
  show (a:Int) / 4294967296=0
  omega
theorem u64n {a:Nat} (h:a≤1000000):IntKind.u64.wrap (a:Int)=a:=IntWalk.u64_in _ ⟨by omega,by omega⟩
theorem u64m {a:Nat} (h:a≤1000000):IntKind.u64.wrap (1* (a:Int))=a:=by rw [Int.one_mul];exact u64n h
theorem rd_nil {w:World} {o:Option Addr} {xs:List Value} (h:Rd w o xs) (ho:o.isNone=true):xs=[]:=by
  cases xs with
  |nil=>rfl
  |cons x l=>obtain ⟨b,off,h1⟩:=h.1 (by rw [List.length_cons];omega);rw [h1] at ho;cases ho
theorem rd_take {w:World} {o:Option Addr} {xs:List Value} (h:Rd w o xs) (k:Nat):Rd w o (xs.take k):=⟨fun h1=>h.1 (by rw [List.length_take] at h1;omega),fun j u hj=>h.2 j u (by rw [List.getElem?_take] at hj;split at hj;exact hj;cases hj)⟩
theorem sub0 (o:Option Addr) (c sz:Nat):kZ o c 0 sz=o:=by
  unfold kZ
  split
  · rfl
  · cases o with
    |none=>rfl
    |some a=>simp [Addr.add]
def vU (v:Value) (m n:Nat):List Value:=List.replicate m v++List.replicate (n - m) Value.nilIface
theorem dV {v:Value} {m n:Nat} (h:m≤n):(vU v m n).length=n:=by unfold vU;simp;omega
theorem fillV_take {v:Value} {m n:Nat} (h:m≤n) (k:Nat):(vU v m n).take (min m k)=List.replicate (min m k) v:=by
  unfold vU
  rw [List.take_append_of_le_length (by simp;omega),List.take_replicate]
  congr 1
  omega
theorem dU {v:Value} {m n k:Nat} (h:m+k≤n):put (vU v m n) m (List.replicate k v)=vU v (m+k) n:=by
  unfold vU
  have e:List.replicate (n - m) Value.nilIface=List.replicate k Value.nilIface++List.replicate (n - (m+k)) Value.nilIface:=by
    rw [List.replicate_append_replicate];congr 1;omega
  rw [e,qL (by simp) (by simp),←List.append_assoc,List.replicate_append_replicate]
theorem fillV_0 (v:Value) (n:Nat):vU v 0 n=List.replicate n Value.nilIface:=by unfold vU;simp
theorem fillV_n (v:Value) (n:Nat):vU v n n=List.replicate n v:=by unfold vU;simp
theorem rep_one {v:Value} (h:v.oneCell'=true) (k:Nat):(List.replicate k v).all (·.oneCell')=true:=by simp [h]
section
attribute [local irreducible] Code.wp wpList Calls Ex Op1 sat bat blk cb own Go.Fw.mp Go.Fw.mpO Go.Fw.mpI Go.Fw.mpE Go.Fw.itr HS Rd Ret wkD Hp Cl Cls Exit.then Exit.inBlock Exit.noGoto bodyPost Go.Fw.flat wk2 Go.Fw.all Go.Fw.owns wpOp
attribute [local irreducible] sk mpK sko mvO xI opM Go.Fw.mset Go.Fw.mv opK w63 nU andK IntKind.wrap vU

theorem Mul64_spec (w0:World) (n:Nat) (hn:n≤256):Ret Tryz.prog 161 #[.int .u64 1,.int .u64 n] w0 (fun v w=>v= .tuple #[.int .u64 0,.int .u64 n]∧Kp w0 noM w):=by
  have hH:HS w0 noM [] w0:=HS.init w0 noM
  have a1:andK .u64 1 4294967295=1:=and_low (a:=1) (by omega)
  have s1:nU .u64 1 32=0:=cX (a:=1) (by omega)
  have a2:=and_low (a:=n) (by omega)
  have s2:=cX (a:=n) (by omega)
  have a0:andK .u64 0 4294967295=0:=and_low (a:=0) (by omega)
  have s0:nU .u64 0 32=0:=cX (a:=0) (by omega)
  have m1:=u64m (a:=n) (by omega)
  have z0:IntKind.u64.wrap 0=0:=u64n (a:=0) (by omega)
  have m0:IntKind.u64.wrap (0* (n:Int))=0:=by rw [Int.zero_mul];exact z0
  have m2:IntKind.u64.wrap (1*0)=0:=by rw [Int.mul_zero];exact z0
  have m3:IntKind.u64.wrap (0*0)=0:=by rw [Int.mul_zero];exact z0
  have p0:IntKind.u64.wrap (0+0)=0:=by rw [Int.add_zero];exact z0
  (refine ENT (N:=51) Tryz.func161 Tryz.ntmps161 ?_;intro a hA)
  repeat' (first|(refine XT ?_;apply XE;(first|(apply ex_and;rfl;rfl;first|exact a1|exact a2|exact a0)|(apply aP;rfl;rfl;decide;first|exact s1|exact s2|exact s0)|(apply ex_mulK;rfl;rfl;first|exact m1|exact m0|exact m2|exact m3)|(apply ex_addK;rfl;rfl;exact p0));clear hA a;intro a hA)|(refine QT ?_;clear hA a;intro a hA)|refine CT ?_|fail)
  exact rt2 (.inl rfl) rfl hA rfl rfl ⟨rfl,hH.kp⟩
theorem Mul_spec (w0:World) (n:Nat) (hn:n≤256):Ret Tryz.prog 141 #[.int .u64 1,.int .u64 n] w0 (fun v w=>v= .tuple #[.int .u64 0,.int .u64 n]∧Kp w0 noM w):=by
  have hH:HS w0 noM [] w0:=HS.init w0 noM
  (refine ENT (N:=30) Tryz.func141 Tryz.ntmps141 ?_;intro a hA)
  repeat' (first|(refine QT ?_;clear hA a;intro a hA)|(refine zH hA rfl rfl (by decide) (zA rfl rfl rfl (Mul64_spec _ n hn)) ?_;clear hA;rintro _ w ⟨rfl,hk⟩ a hA;replace hH:=hH.keep hk;clear hk)|refine CT ?_|fail)
  exact rt2 (.inl rfl) rfl hA rfl rfl ⟨rfl,hH.kp⟩
theorem cloneI_spec (w0:World) (o:Option Addr) (c:Nat) (l:List Int) (hR:Rd w0 o (flat Fw.encI l)) (hl:l.length≤1048576) :
    Ret Tryz.prog 93 #[.slice o l.length c] w0 (fun v w=>∃o' c',v= .slice o' l.length c'∧HS w0 noM [own 2 1 o' l.length c' (flat Fw.encI l)] w):=by
  have hH:HS w0 noM [] w0:=HS.init w0 noM
  have hfl:(flat Fw.encI l).length=l.length*1:=zF Fw.encI_len _
  have hon:(flat Fw.encI l).all (·.oneCell')=true:=vQ (fun _=>rfl) _
  (refine ENT (N:=8) Tryz.func93 Tryz.ntmps93 ?_;intro a hA)
  repeat' (first|(refine XT ?_;apply XE;(first|(apply sW;rfl;rfl));clear hA a;intro a hA)|(refine QT ?_;clear hA a;intro a hA)|(refine LT ?_;clear hA hH;rintro _ w ⟨oN,rfl,hH⟩ a hA)|refine CT ?_|(refine DT ?_ ?_<;>intro hc<;>try (exfalso;omega))|fail)
  · have hnil:=rd_nil hR (by assumption)
    obtain rfl:l=[]:=List.length_eq_zero_iff.1 (by rw [←Nat.mul_one l.length,←hfl,hnil];rfl)
    rw [kE]
    exact rt1 (.inl rfl) rfl hA rfl ⟨none,0,rfl,hH.nil_own 2 1⟩
  · have hRw:=hH.rd hR id
    (apply zH hA rfl rfl (by decide);apply yX;rfl;rfl;exact hH;exact MEMT;exact hRw;exact hfl;rfl;decide;exact hon;(unfold maxLen;omega);omega;clear hA;rintro _ w ⟨oN,cN,rfl,hH2⟩ a hA;clear hH;have hH:=hH2 _ (by (repeat constructor));clear hH2)
    repeat' (first|(refine QT ?_;clear hA a;intro a hA)|refine CT ?_|fail)
    rw [Nat.zero_add] at hA hH
    exact rt1 (.inl rfl) rfl hA rfl ⟨_,_,rfl,hH⟩
theorem cloneV_spec (w0:World) (o:Option Addr) (c:Nat) (l:List Value) (hR:Rd w0 o l) (hon:l.all (·.oneCell')=true) (hl:l.length≤1048576) :
    Ret Tryz.prog 94 #[.slice o l.length c] w0 (fun v w=>∃o' c',v= .slice o' l.length c'∧HS w0 noM [own 137 1 o' l.length c' l] w):=by
  have hH:HS w0 noM [] w0:=HS.init w0 noM
  have hfl:l.length=l.length*1:=by omega
  (refine ENT (N:=8) Tryz.func94 Tryz.ntmps94 ?_;intro a hA)
  repeat' (first|(refine XT ?_;apply XE;(first|(apply sW;rfl;rfl));clear hA a;intro a hA)|(refine QT ?_;clear hA a;intro a hA)|(refine LT ?_;clear hA hH;rintro _ w ⟨oN,rfl,hH⟩ a hA)|refine CT ?_|(refine DT ?_ ?_<;>intro hc<;>try (exfalso;omega))|fail)
  · obtain rfl:l=[]:=rd_nil hR (by assumption)
    exact rt1 (.inl rfl) rfl hA rfl ⟨none,0,rfl,hH.nil_own 137 1⟩
  · have hRw:=hH.rd hR id
    (apply zH hA rfl rfl (by decide);apply yX;rfl;rfl;exact hH;exact MEMT;exact hRw;exact hfl;rfl;decide;exact hon;(unfold maxLen;omega);omega;clear hA;rintro _ w ⟨oN,cN,rfl,hH2⟩ a hA;clear hH;have hH:=hH2 _ (by (repeat constructor));clear hH2)
    repeat' (first|(refine QT ?_;clear hA a;intro a hA)|refine CT ?_|fail)
    rw [Nat.zero_add] at hA hH
    exact rt1 (.inl rfl) rfl hA rfl ⟨_,_,rfl,hH⟩
theorem repeat_spec (w0:World) (o:Option Addr) (n:Nat) (v:Value) (hR:Rd w0 o [v]) (hv:v.oneCell'=true) (hn:n≤256) :
    Ret Tryz.prog 129 #[.slice o 1 1,.int .i64 n] w0 (fun r w=>∃o',r= .slice o' n n∧HS w0 noM [own 137 1 o' n n (List.replicate n v)] w):=by
  have hH:HS w0 noM [] w0:=HS.init w0 noM
  have u1:IntKind.u64.wrap ((1:Nat):Int)=1:=u64n (a:=1) (by omega)
  have u2:=u64n (a:=n) (by omega)
  have u3:IntKind.i64.wrap (n:Int)=n:=vB (by unfold sM;omega)
  (refine ENT (N:=48) Tryz.func129 Tryz.ntmps129 ?_;intro a hA)
  repeat' (first|(refine GT ?_ ?_<;>intro hg<;>clear hA a<;>intro a hA<;>(first|exact FA|replace hg:=dTr hg|replace hg:=dFa hg|skip))|(refine XT ?_;apply XE;(first|(apply uA;rfl;first|exact u1|exact u2|exact u3));clear hA a;intro a hA)|(refine QT ?_;clear hA a;intro a hA)|(refine zH hA rfl rfl (by decide) (zA rfl rfl rfl (Mul_spec _ n hn)) ?_;clear hA;rintro _ w ⟨rfl,hk⟩ a hA;replace hH:=hH.keep hk;clear hk)|(apply zH hA rfl rfl (by decide);apply op_make1 (yR) (Value.nilIface) (n:=n);rfl;rfl;omega;omega;(unfold maxLen;omega);omega;rfl;rfl;exact hH;clear hA hH;rintro _ w ⟨oN,rfl,hH⟩ a hA)|refine CT ?_|(refine DT ?_ ?_<;>intro hc<;>try (exfalso;omega))|fail)
  rw [flatV,←fillV_0 v] at hH
  have hc0:(([v]:List Value).take (min 1 n)).length=Nat.min 1 n:=by rw [List.length_take];show min (min 1 n) 1=min 1 n;omega
  have ht0:([v]:List Value).take (min 1 n)=List.replicate (min 1 n) v:=by
    rcases Nat.eq_zero_or_pos n with h|h
    · subst h;rfl
    · rw [show min 1 n=1 by omega];rfl
  have hRw:=rd_take (hH.rd hR id) (min 1 n)
  rw [ht0] at hc0 hRw
  have hp0:=dU (v:=v) (m:=0) (n:=n) (k:=min 1 n) (by omega)
  rw [Nat.zero_add] at hp0
  have hb0:0+(List.replicate (min 1 n) v).length≤(vU v 0 n).length:=by rw [dV (Nat.zero_le _),hc0];show 0+min 1 n≤n;omega
  have hrp:∀H,Rp (own 137 1 oN n n (vU v 0 n)::H) (own 137 1 oN n n (vU v 0 n)) (own 137 1 oN n n (put (vU v 0 n) 0 (List.replicate (min 1 n) v))) (own 137 1 oN n n (put (vU v 0 n) 0 (List.replicate (min 1 n) v))::H):=fun H=>.here
  (apply zH hA rfl rfl (by decide);apply op_copy (k:=0) (news:=List.replicate (min 1 n) v);rfl;rfl;exact hH;exact hRw;exact hc0;exact (fun h=>⟨(sub0 _ _ _).symm,by rw [hc0] at h;show 0<n;have h1:0<min 1 n:=h;omega⟩);exact rep_one hv _;exact hb0;exact hrp _;clear hA hH;rintro _ w ⟨rfl,hH⟩ a hA)
  rw [hp0] at hH
  have hmin:Nat.min 1 n=min 1 n:=rfl
  rw [hmin] at hA
  repeat' (first|(refine QT ?_;clear hA a;intro a hA)|refine CT ?_|fail)
  refine yK (S:=Nat) (fun m a w=>(m≤n∧(0<n→0<m))∧HS w0 noM [own 137 1 oN n n (vU v m n)] w∧Sl 48 [(8,.int .i64 m),(7,.slice oN n n)] a) (fun m=>n - m)
    (fun a w=>HS w0 noM [own 137 1 oN n n (List.replicate n v)] w∧Sl 48 [(7,.slice oN n n)] a) (min 1 n) ⟨⟨by omega,by omega⟩,hH,(hA.sub SBT)⟩ ?_ ?_
  · clear hA hH hp0 hb0 hrp hRw hc0 ht0
    rintro m a w ⟨⟨hm,hm0⟩,hH,hA⟩
    by_cases hlt:m<n
    rotate_left
    · obtain rfl:m=n:=by omega
      rw [fillV_n] at hH
      repeat' (first|(refine QT ?_;clear hA a;intro a hA)|refine CT ?_|(refine DT ?_ ?_<;>intro hc<;>try (exfalso;omega))|fail)
      exact ⟨hH,(hA.sub SBT)⟩
    have hsp:=hH.own_sp (T:=137) (.head _)
    have hlen:=dV (v:=v) (Nat.le_of_lt hlt)
    obtain ⟨k,hk⟩:∃k,k=min m (n - m):=⟨_,rfl⟩
    have hc1:(List.replicate k v).length=Nat.min m (n - m):=by rw [List.length_replicate,hk]
    have hp1:=dU (v:=v) (m:=m) (n:=n) (k:=k) (by omega)
    have hb1:m+(List.replicate k v).length≤(vU v m n).length:=by rw [hlen,List.length_replicate];omega
    have hrp:∀H,Rp (own 137 1 oN n n (vU v m n)::H) (own 137 1 oN n n (vU v m n)) (own 137 1 oN n n (put (vU v m n) m (List.replicate k v))) (own 137 1 oN n n (put (vU v m n) m (List.replicate k v))::H):=fun H=>.here
    have htk:(vU v m n).take k=List.replicate k v:=by
      have:=fillV_take (v:=v) (Nat.le_of_lt hlt) (n - m)
      rw [←hk] at this
      exact this
    repeat' (first|(refine QT ?_;clear hA a;intro a hA)|refine CT ?_|(refine DT ?_ ?_<;>intro hc<;>try (exfalso;omega))|fail)
    (refine zQ [(0,1),(1,1),(2,1),(3,1),(4,1),(5,1),(6,1),(7,0),(8,1),(9,1)] mixed (by decide +kernel) hH.drop_ ?_;replace hH:=hH.drew)
    repeat' (first|(refine XT ?_;apply XE;(first|(apply rO (k:=m);rfl;rfl;rfl;omega)|(apply wY (k:=m);rfl;rfl;rfl;omega));clear hA a;intro a hA)|(refine QT ?_;clear hA a;intro a hA)|fail)
    have hRk:=rd_take (hH.own_rd (T:=137) (.head _)) k
    rw [htk] at hRk
    (apply yO hA rfl rfl rfl (by decide);apply op_copy (k:=m) (news:=List.replicate k v);rfl;rfl;exact hH;exact hRk;exact hc1;exact (fun h=>⟨rfl,hlt⟩);exact rep_one hv _;exact hb1;exact hrp _;clear hA hH;rintro _ w ⟨rfl,hH⟩;refine ⟨STT,?_⟩;intro a hA)
    rw [hp1] at hH
    have hmk:Nat.min m (n - m)=k:=hk.symm
    rw [hmk] at hA
    repeat' (first|(refine QT ?_;clear hA a;intro a hA)|refine CT ?_|fail)
    exact ⟨m+k,⟨⟨by omega,fun _=>by omega⟩,hH,(hA.sub SBT)⟩,by omega⟩
  clear hA hH
  rintro a w ⟨hH,hA⟩
  repeat' (first|(refine QT ?_;clear hA a;intro a hA)|refine CT ?_|fail)
  exact rt1 (.inl rfl) rfl hA rfl ⟨_,rfl,hH⟩
end
def Rs.wd (r:Rs) (w:Wd):Wd:=
  match r with
  | .val _ w'=>w'
  | .exn _=>w
theorem sto_arr {w0 w:World} {H:List It} {sx:Sx} {i p k:Nat} {o:Option Addr} {us:List Value} (h:HS w0 noM (all (sx.map obI)::H) w) (hi:sx[i]?=some (p,Ob.arr o k us)) :
    HS w0 noM (cb p 246 [.slice o us.length k]::own 137 1 o us.length k us::all ((sx.map obI).eraseIdx i)::H) w:=
  HS.open_ (L:=[_,_]) (h.openAt (i:=i) (x:=obI (p,Ob.arr o k us)) (by rw [List.getElem?_map,hi];rfl))
theorem kP {w0 w:World} {H:List It} {sx:Sx} {i p k:Nat} {o:Option Addr} {us:List Value} (h:HS w0 noM (cb p 246 [.slice o us.length k]::own 137 1 o us.length k us::all ((sx.map obI).eraseIdx i)::H) w) (hi:i<sx.length) :
    HS w0 noM (all ((sx.set i (p,Ob.arr o k us)).map obI)::H) w:=by
  have h1:HS w0 noM (obI (p,Ob.arr o k us)::all ((sx.map obI).eraseIdx i)::H) w:=HS.shut (L:=[cb p 246 [.slice o us.length k],own 137 1 o us.length k us]) h
  have h2:=h1.shutAt (by rw [List.length_map];exact hi)
  rw [List.map_set]
  exact h2
theorem sto_arr_add {w0 w:World} {H:List It} {sx:Sx} {p k:Nat} {o:Option Addr} {us:List Value} (h:HS w0 noM (cb p 246 [.slice o us.length k]::own 137 1 o us.length k us::all (sx.map obI)::H) w) :
    HS w0 noM (all ((sx++[(p,Ob.arr o k us)]).map obI)::H) w:=by
  have h1:HS w0 noM (obI (p,Ob.arr o k us)::all (sx.map obI)::H) w:=HS.shut (L:=[cb p 246 [.slice o us.length k],own 137 1 o us.length k us]) h
  have h2:=h1.pushA
  rw [List.map_append]
  exact h2
theorem sto_cell {w0 w:World} {H:List It} {sx:Sx} {i p:Nat} {v:Value} (h:HS w0 noM (all (sx.map obI)::H) w) (hi:sx[i]?=some (p,Ob.cell v)) :
    HS w0 noM (cb p 234 [v]::all ((sx.map obI).eraseIdx i)::H) w:=h.openAt (i:=i) (x:=obI (p,Ob.cell v)) (by rw [List.getElem?_map,hi];rfl)
theorem mL {w0 w:World} {H:List It} {sx:Sx} {i p:Nat} {v:Value} (h:HS w0 noM (cb p 234 [v]::all ((sx.map obI).eraseIdx i)::H) w) (hi:i<sx.length) :
    HS w0 noM (all ((sx.set i (p,Ob.cell v)).map obI)::H) w:=by
  have h1:HS w0 noM (obI (p,Ob.cell v)::all ((sx.map obI).eraseIdx i)::H) w:=h
  have h2:=h1.shutAt (by rw [List.length_map];exact hi)
  rw [List.map_set]
  exact h2
theorem cW {w0 w:World} {H:List It} {sx:Sx} {p:Nat} {v:Value} (h:HS w0 noM (cb p 234 [v]::all (sx.map obI)::H) w) :
    HS w0 noM (all ((sx++[(p,Ob.cell v)]).map obI)::H) w:=by
  have h1:HS w0 noM (obI (p,Ob.cell v)::all (sx.map obI)::H) w:=h
  have h2:=h1.pushA
  rw [List.map_append]
  exact h2
theorem set_self {α:Type} {l:List α} {i:Nat} {x:α} (h:l[i]?=some x):l.set i x=l:=gF h
theorem dO {α:Type} {l:List α} {i:Nat} {x d:α} (h:l[i]?=some x):l.getD i d=x:=by rw [List.getD_eq_getElem?_getD,h];rfl
theorem arr_of {c:Cx} {sx:Sx} {st:List (List Vl)} {i p:Nat} (h:StR c sx st) (hi:c.ad[i]?=some (p,false)):∃o k us l,sx[i]?=some (p,.arr o k us)∧st[i]?=some l∧RVs c l us:=by
  obtain ⟨ob,l,h1,h2,h3,h4⟩:=h.place hi
  cases ob with
  |cell v=>cases h2
  |arr o k us=>exact ⟨o,k,us,l,h1,h3,h4⟩
theorem cell_of {c:Cx} {sx:Sx} {st:List (List Vl)} {i p:Nat} (h:StR c sx st) (hi:c.ad[i]?=some (p,true)):∃v x,sx[i]?=some (p,.cell v)∧st[i]?=some [x]∧RV c x v:=by
  obtain ⟨ob,l,h1,h2,h3,h4⟩:=h.place hi
  cases ob with
  |arr o k us=>cases h2
  | cell v=>
    obtain ⟨x,rfl,h5⟩:=h4
    exact ⟨v,x,h1,h3,h5⟩
def Pst (w0:World) (c:Cx) (H:List It) (r:Rs) (wd:Wd) (v:Value) (w:World):Prop:=
  ∃d sx,(c.le d∧d.bd≤c.bd+1)∧HS w0 noM (frz w0 d.K::all (sx.map obI)::H) w∧RsV d r v∧StR d sx (r.wd wd).st
theorem Pst.same {w0 w:World} {c:Cx} {H:List It} {r:Rs} {wd:Wd} {v:Value} {sx:Sx} (hH:HS w0 noM (frz w0 c.K::all (sx.map obI)::H) w) (hr:RsV c r v) (hS:StR c sx (r.wd wd).st):Pst w0 c H r wd v w:=⟨c,sx,⟨c.le_refl,Nat.le_succ _⟩,hH,hr,hS⟩
theorem RV_ar {c:Cx} {i p:Nat} (h:c.ad[i]?=some (p,false)):RV c (.ar i) (vY 243 p):=by rw [RV];exact ⟨p,rfl,h⟩
theorem RV_cl {c:Cx} {i p:Nat} (h:c.ad[i]?=some (p,true)):RV c (.cl i) (vY 232 p):=by rw [RV];exact ⟨p,rfl,h⟩
theorem StR.next {c:Cx} {sx:Sx} {st:List (List Vl)} (h:StR c sx st) (e:Nat × Bool):(c.ad++[e])[st.length]?=some e:=by
  have h1:c.ad.length=st.length:=by rw [h.ad,←h.len];unfold adr;rw [List.length_map]
  rw [List.getElem?_append_right (by omega),h1,Nat.sub_self]
  rfl
theorem Pst.arr {w0 w:World} {c:Cx} {H:List It} {r:Rs} {wd:Wd} {sx:Sx} {p m:Nat} {o:Option Addr} {x:Vl} {u v:Value} (hH:HS w0 noM (cb p 246 [.slice o m m]::own 137 1 o m m (List.replicate m u)::all (sx.map obI)::frz w0 c.K::H) w) (hx:RV c x u) (hS:StR c sx wd.st)
    (hr:r= .val (.ar wd.st.length) {wd with st:=wd.st++[List.replicate m x]}) (hv:v= .tuple #[vY 243 p,.string empS]):Pst w0 c H r wd v w:=by
  obtain ⟨hle,hS2⟩:=hS.add (p:=p) (ob:=.arr o m (List.replicate m u)) (l:=List.replicate m x) (RVs.rep hx m)
  refine ⟨_,_,⟨hle,Nat.le_succ _⟩,?_,RsV_val hr (RV_ar (hS.next _)) hv,by rw [hr];exact hS2⟩
  have e:(List.replicate m u).length=m:=List.length_replicate
  have h1:HS w0 noM (cb p 246 [.slice o (List.replicate m u).length m]::own 137 1 o (List.replicate m u).length m (List.replicate m u)::all (sx.map obI)::frz w0 c.K::H) w:=by rw [e];exact hH
  exact (sto_arr_add h1).perm (.swap _ _ _)
theorem arr13 {l:List Vl} {wd:Wd} {op:Int} (h:op=13):vV op l wd=(match asNum (yI l 0) with|some n=>if n<0∨256<n then .exn eS else .val (.ar wd.st.length) {wd with st:=wd.st++[List.replicate n.toNat (yI l 1)]}|none=>stk wd):=if_pos h
theorem arrN {l:List Vl} {wd:Wd} {op:Int} (h:op≠13):vV op l wd=(match asAr (yI l 0) with
    | some p=>
      if op=16 then .val (.num (wd.st.getD p []).length) wd
      else
        match asNum (yI l 1) with
        | some i=>
          if i<0∨((wd.st.getD p []).length:Int)≤i then .exn eT
          else if op=14 then .val (yI (wd.st.getD p []) i.toNat) wd
          else .val (.num 0) {wd with st:=wd.st.set p ((wd.st.getD p []).set i.toNat (yI l 2))}
        |none=>stk wd
    |none=>stk wd):=if_neg h
theorem put_set {cs:List Value} {j:Nat} {v:Value} (h:j<cs.length):put cs (j*1) [v]=cs.set j v:=by
  rw [Nat.mul_one,List.set_eq_take_append_cons_drop,if_pos h]
  simp [put]
section
attribute [local irreducible] Code.wp wpList Calls Ex Op1 sat bat blk cb own Go.Fw.mp Go.Fw.mpO Go.Fw.mpI Go.Fw.mpE Go.Fw.itr HS Rd Ret wkD Hp Cl Cls Exit.then Exit.inBlock Exit.noGoto bodyPost Go.Fw.flat wk2 Go.Fw.all Go.Fw.owns wpOp
attribute [local irreducible] sk mpK sko mvO xI opM Go.Fw.mset Go.Fw.mv opK w63 frz obI RV

theorem arrays_spec (w0 w:World) (H:List It) (c:Cx) (op:Int) (l:List Vl) (vs:List Value) (oL:Option Addr) (cL:Nat) (wd:Wd) (sx:Sx) (hH:HS w0 noM (frz w0 c.K::all (sx.map obI)::H) w) (hL:∀w,c.K w→Rd w oL vs) (hV:RVs c l vs) (hS:StR c sx wd.st)
    (hop:(op=13∧2≤l.length)∨(op=14∧2≤l.length)∨(op=15∧3≤l.length)∨(op=16∧1≤l.length)) :
    Ret Tryz.prog 116 #[.int .i64 op,.slice oL vs.length cL] w (fun v w'=>Pst w0 c H (vV op l wd) wd v w'):=by
  have hvl:=hV.len
  have hsp:Sp oL vs.length:=(hL w (hH.frz (.head _))).sp (sz:=1) (by omega) (by omega)
  obtain ⟨v0,hv0,hx0⟩:=hV.get0 (i:=0) (by omega)
  (refine ENT (N:=98) Tryz.func116 Tryz.ntmps116 ?_;intro a hA)
  by_cases h13:op=13
  · obtain ⟨v1,hv1,hx1⟩:=hV.get0 (i:=1) (by omega)
    have e13:=arr13 (l:=l) (wd:=wd) h13
    repeat' (first|(refine XT ?_;apply XE;(first|(apply zD;rfl;rfl;decide;omega;exact hsp)|(apply zC;rfl;exact yJ MEMT hL hv0));clear hA a;intro a hA)|(refine QT ?_;clear hA a;intro a hA)|refine CT ?_|(refine DT ?_ ?_<;>intro hc<;>try (exfalso;omega))|fail)
    rcases hx0.asNum with ⟨n,hs,rfl,hio⟩| ⟨hs,hn⟩
    rotate_left
    · repeat' (first|(refine XT ?_;apply XE;(first|(apply yC;rfl;exact hn));clear hA a;intro a hA)|(refine QT ?_;clear hA a;intro a hA)|refine CT ?_|fail)
      rw [hs] at e13
      exact rt2 (.inl rfl) rfl hA rfl rfl (Pst.same hH (RsV_stk e13 rfl) (by rw [e13];exact hS))
    rw [hs] at e13
    dsimp only at e13
    repeat' (first|(refine GT ?_ ?_<;>intro hg<;>clear hA a<;>intro a hA<;>(first|exact FA|replace hg:=dTr hg|replace hg:=dFa hg|skip))|(refine XT ?_;apply XE;(first|(apply zL;rfl)|(apply zC;rfl;exact yJ MEMT hL hv1));clear hA a;intro a hA)|(refine QT ?_;clear hA a;intro a hA)|refine CT ?_|(refine DT ?_ ?_<;>intro hc<;>try (exfalso;omega))|fail)
    · rw [if_pos (.inl (by omega))] at e13
      exact rt2 (.inl rfl) rfl hA rfl rfl (Pst.same hH (RsV_exn e13 rfl) (by rw [e13];exact hS))
    · rw [if_pos (.inr (by omega))] at e13
      exact rt2 (.inl rfl) rfl hA rfl rfl (Pst.same hH (RsV_exn e13 rfl) (by rw [e13];exact hS))
    rw [if_neg (by omega)] at e13
    obtain ⟨m,rfl⟩:∃m:Nat,n=m:=⟨n.toNat,by omega⟩
    (apply zH hA rfl rfl (by decide);apply zZ (xs:=[v1]) (vs:=[v1]);rfl;rfl;exact .c1 hx1.one .nil;rfl;rfl;rfl;exact hH;clear hA hH;rintro _ w ⟨oN,rfl,hH⟩ a hA)
    repeat' (first|(refine QT ?_;clear hA a;intro a hA)|fail)
    have hrp:=repeat_spec w oN m v1 (hH.own_rd (T:=137) (.head _)) hx1.one (by omega)
    (refine zH hA rfl rfl (by decide) (zA rfl rfl rfl hrp) ?_;clear hA;rintro _ w ⟨oR,rfl,hj⟩ a hA;replace hH:=hH.join hj;clear hj hrp)
    repeat' (first|(refine XT ?_;apply XE;(first|(apply zY;rfl));clear hA a;intro a hA)|(refine QT ?_;clear hA a;intro a hA)|(refine BT ?_;clear hA hH;rintro _ w ⟨bN,rfl,hH⟩ a hA)|refine CT ?_|fail)
    exact rt2 (.inl rfl) rfl hA rfl rfl (Pst.arr (x:=yI l 1) (hH.perm (H':=cb bN 246 [.slice oR m m]::own 137 1 oR m m (List.replicate m v1)::all (sx.map obI)::frz w0 c.K::own 137 1 oN 1 1 [v1]::H) PMT |>.rm 4) hx1 hS e13 rfl)
  · have eN:=arrN (l:=l) (wd:=wd) h13
    repeat' (first|(refine XT ?_;apply XE;(first|(apply zD;rfl;rfl;decide;omega;exact hsp)|(apply zC;rfl;exact yJ MEMT hL hv0));clear hA a;intro a hA)|(refine QT ?_;clear hA a;intro a hA)|refine CT ?_|(refine DT ?_ ?_<;>intro hc<;>try (exfalso;omega))|fail)
    rcases hx0.asAr with ⟨i,p,hs,rfl,hio⟩| ⟨hs,hn⟩
    rotate_left
    · repeat' (first|(refine XT ?_;apply XE;(first|(apply yC;rfl;exact hn));clear hA a;intro a hA)|(refine QT ?_;clear hA a;intro a hA)|refine CT ?_|fail)
      rw [hs] at eN
      exact rt2 (.inl rfl) rfl hA rfl rfl (Pst.same hH (RsV_stk eN rfl) (by rw [eN];exact hS))
    rw [hs] at eN
    dsimp only at eN
    obtain ⟨o,k,us,xs,hsx,hst,hus⟩:=arr_of hS hio
    have hul:=hus.len
    rw [dO hst] at eN
    have hiL:=(List.getElem?_eq_some_iff.1 hsx).1
    have hH2:=sto_arr ((hH.perm (.swap _ _ _))) hsx
    clear hH
    have hH:=hH2
    clear hH2
    have hback:∀w,HS w0 noM (cb p 246 [.slice o us.length k]::own 137 1 o us.length k us::all ((sx.map obI).eraseIdx i)::frz w0 c.K::H) w→HS w0 noM (frz w0 c.K::all (sx.map obI)::H) w:=fun w h=>by
      have h2:=kP h hiL
      rw [set_self hsx] at h2
      exact h2.perm (.swap _ _ _)
    have hspU:=hH.own_sp (T:=137) (o:=o) (by exact MEMT)
    repeat' (first|(refine XT ?_;apply XE;(first|(apply zL;rfl)|(apply zY;rfl));clear hA a;intro a hA)|(refine QT ?_;clear hA a;intro a hA)|refine CT ?_|(refine DT ?_ ?_<;>intro hc<;>try (exfalso;omega))|fail)
    · rw [if_pos (by assumption)] at eN
      have hle:=(hH.own_le (T:=137) (o:=o) (by exact MEMT))
      unfold maxLen at hle
      exact rt2 (.inl rfl) rfl hA rfl rfl (Pst.same (hback _ hH) (RsV_val (x:=.num xs.length) eN (by rw [←hul];exact RV_num ⟨by omega,by omega⟩) rfl) (by rw [eN];exact hS))
    rw [if_neg (by assumption)] at eN
    obtain ⟨v1,hv1,hx1⟩:=hV.get0 (i:=1) (by omega)
    repeat' (first|(refine XT ?_;apply XE;(first|(apply zC;rfl;exact yJ MEMT hL hv1));clear hA a;intro a hA)|(refine QT ?_;clear hA a;intro a hA)|fail)
    rcases hx1.asNum with ⟨j,hj,rfl,hjo⟩| ⟨hj,hn⟩
    rotate_left
    · repeat' (first|(refine XT ?_;apply XE;(first|(apply yC;rfl;exact hn));clear hA a;intro a hA)|(refine QT ?_;clear hA a;intro a hA)|refine CT ?_|fail)
      rw [hj] at eN
      exact rt2 (.inl rfl) rfl hA rfl rfl (Pst.same (hback _ hH) (RsV_stk eN rfl) (by rw [eN];exact hS))
    rw [hj] at eN
    dsimp only at eN
    have hget:∀h:¬(j<0∨(xs.length:Int)≤j),∃u,us[j.toNat*1]?=some u∧RV c (yI xs j.toNat) u:=fun h=>by
      obtain ⟨u,h1,h2⟩:=hus.get0 (i:=j.toNat) (by omega)
      exact ⟨u,by rw [Nat.mul_one];exact h1,h2⟩
    by_cases hb:j<0∨(xs.length:Int)≤j
    · rw [if_pos hb] at eN
      repeat' (first|(refine GT ?_ ?_<;>intro hg<;>clear hA a<;>intro a hA<;>(first|exact FA|replace hg:=dTr hg|replace hg:=dFa hg|skip))|(refine XT ?_;apply XE;(first|(apply zL;rfl));clear hA a;intro a hA)|(refine QT ?_;clear hA a;intro a hA)|refine CT ?_|(refine DT ?_ ?_<;>intro hc<;>try (exfalso;omega))|fail)
      all_goals exact rt2 (.inl rfl) rfl hA rfl rfl (Pst.same (hback _ hH) (RsV_exn eN rfl) (by rw [eN];exact hS))
    obtain ⟨u,hu,hxu⟩:=hget hb
    rw [if_neg hb] at eN
    by_cases h14:op=14
    · rw [if_pos h14] at eN
      repeat' (first|(refine GT ?_ ?_<;>intro hg<;>clear hA a<;>intro a hA<;>(first|exact FA|replace hg:=dTr hg|replace hg:=dFa hg|skip))|(refine XT ?_;apply XE;(first|(apply zL;rfl)|(apply zD;rfl;rfl;omega;omega;exact hspU)|(apply zC;rfl;apply uD (T:=137) (o:=o);exact MEMT;exact hu));clear hA a;intro a hA)|(refine QT ?_;clear hA a;intro a hA)|refine CT ?_|(refine DT ?_ ?_<;>intro hc<;>try (exfalso;omega))|fail)
      exact rt2 (.inl rfl) rfl hA rfl rfl (Pst.same (hback _ hH) (RsV_val eN hxu rfl) (by rw [eN];exact hS))
    · rw [if_neg h14] at eN
      obtain ⟨v2,hv2,hx2⟩:=hV.get0 (i:=2) (by omega)
      repeat' (first|(refine GT ?_ ?_<;>intro hg<;>clear hA a<;>intro a hA<;>(first|exact FA|replace hg:=dTr hg|replace hg:=dFa hg|skip))|(refine XT ?_;apply XE;(first|(apply zL;rfl));clear hA a;intro a hA)|(refine QT ?_;clear hA a;intro a hA)|refine CT ?_|(refine DT ?_ ?_<;>intro hc<;>try (exfalso;omega))|fail)
      have hjl:j.toNat<us.length:=by omega
      have hjl1:j.toNat*1<us.length:=by omega
      have hps:=put_set (v:=v2) hjl
      have h1v:=hx2.one
      (refine zK [(0,1),(1,1),(2,1),(3,1),(4,1),(5,1),(6,1),(7,1),(8,1)] [9] mixed (by decide +kernel) hH ?_;replace hH:=hH.drew)
      repeat' (first|(refine XT ?_;apply XE;(first|(apply zD;rfl;rfl;decide;omega;exact hsp)|(apply zD;rfl;rfl;omega;omega;exact hspU)|(apply zC;rfl;exact yJ MEMT hL hv2));clear hA a;intro a hA)|(refine QT ?_;clear hA a;intro a hA)|refine CT ?_|fail)
      (apply zX hA rfl rfl rfl;apply uS;rfl;rfl;exact h1v;exact hH;(repeat constructor);exact hjl1;exact hps;clear hH;rintro _ w hH)
      repeat' (first|(refine XT ?_;apply XE;(first|(apply zY;rfl));clear hA a;intro a hA)|(refine QT ?_;clear hA a;intro a hA)|refine CT ?_|fail)
      have hlen:(us.set j.toNat v2).length=us.length:=List.length_set
      rw [←hlen] at hH
      have h2:=kP hH hiL
      have hS2:=hS.set (ob':=.arr o k (us.set j.toNat v2)) (l:=xs.set j.toNat (yI l 2)) hsx rfl (RVs.set hus hx2)
      exact rt2 (.inl rfl) rfl hA rfl rfl ⟨c,_,⟨c.le_refl,Nat.le_succ _⟩,h2.perm (.swap _ _ _),RsV_val eN (RV_num ⟨by omega,by omega⟩) rfl,by rw [eN];exact hS2⟩
end
def zJ (g:Grs) (kd:Int) (s:ByteArray) (o:Option Addr) (n c:Nat):List Value:=[.slice g.xs.o g.xs.l.length g.xs.c,.slice g.ss.o g.ss.l.length g.ss.c,.int .i64 kd,.string s,.slice o n c]
def Wst (w0:World) (c:Cx) (TM bM:Nat) (g:Grs) (kd:Int) (rest:List Value) (H:List It) (r:Rs) (wd:Wd) (v:Value) (w:World):Prop:=
  ∃d sx oO cO,(c.le d∧d.bd≤c.bd+1)∧HS w0 noM (cb bM TM (zJ g kd (r.wd wd).inp oO (r.wd wd).out.length cO++rest)::own 5 1 oO (r.wd wd).out.length cO (flat zV (r.wd wd).out)::frz w0 d.K::all (sx.map obI)::H) w∧RsV d r v∧StR d sx (r.wd wd).st
theorem Wst.same {w0 w:World} {c d:Cx} {TM bM:Nat} {g:Grs} {kd:Int} {rest:List Value} {H:List It} {r:Rs} {wd:Wd} {v:Value} {sx:Sx} {oO:Option Addr} {cO:Nat} (hd:c.le d) (hH:HS w0 noM (cb bM TM (zJ g kd wd.inp oO wd.out.length cO++rest)::own 5 1 oO wd.out.length cO (flat zV wd.out)::frz w0 d.K::all (sx.map obI)::H) w) (hr:RsV d r v) (hS:StR d sx (r.wd wd).st) (hi:(r.wd wd).inp=wd.inp) (ho:(r.wd wd).out=wd.out) (hb:d.bd≤c.bd+1:=by exact Nat.le_succ _) :
    Wst w0 c TM bM g kd rest H r wd v w:=⟨d,sx,oO,cO,⟨hd,hb⟩,by rw [hi,ho];exact hH,hr,hS⟩
theorem texts_wd {op:Int} {l:List Vl} {wd:Wd}:(vW op l wd).wd wd=wd:=by
  unfold vW
  split
  · split
    · rfl
    · split
      · split
        · split<;>rfl
        · rfl
      · split
        · split<;>rfl
        · rfl
  · rfl
theorem arrays_io {op:Int} {l:List Vl} {wd:Wd}:((vV op l wd).wd wd).inp=wd.inp∧((vV op l wd).wd wd).out=wd.out:=by
  unfold vV
  split
  · split
    · split<;>exact ⟨rfl,rfl⟩
    · exact ⟨rfl,rfl⟩
  · split
    · split
      · exact ⟨rfl,rfl⟩
      · split
        · split
          · exact ⟨rfl,rfl⟩
          · split<;>exact ⟨rfl,rfl⟩
        · exact ⟨rfl,rfl⟩
    · exact ⟨rfl,rfl⟩
theorem op_10 {op:Int} {l:List Vl} {wd:Wd} (h:op=10):opF op l wd= .val (.cl wd.st.length) {wd with st:=wd.st++[[yI l 0]]}:=if_pos h
theorem op_11 {op:Int} {l:List Vl} {wd:Wd} (h:op=11):opF op l wd=(match asCl (yI l 0) with|some p=>.val (yI (wd.st.getD p []) 0) wd|none=>stk wd):=by
  subst h;rfl
theorem op_12 {op:Int} {l:List Vl} {wd:Wd} (h:op=12):opF op l wd=(match asCl (yI l 0) with|some p=>.val (.num 0) {wd with st:=wd.st.set p [yI l 1]}|none=>stk wd):=by
  subst h;rfl
theorem op_tx {op:Int} {l:List Vl} {wd:Wd} (h:op=17∨op=18∨op=19):opF op l wd=vW op l wd:=by
  rcases h with rfl|rfl|rfl<;>rfl
theorem op_ar {op:Int} {l:List Vl} {wd:Wd} (h:op=13∨op=14∨op=15∨op=16):opF op l wd=vV op l wd:=by
  rcases h with rfl|rfl|rfl|rfl<;>rfl
theorem op_num {op:Int} {l:List Vl} {wd:Wd} (h:op<10∨19<op):opF op l wd=(match asNum (yI l 0),(if 1<l.length then asNum (yI l 1) else some 0) with
    | some a,some b=>
      if op=20 then (if eqS wd.inp empS=true then .val (.num (-1)) wd else .val (.num ((bts wd.inp).getD 0 0)) {wd with inp:=wd.inp.extract 1 wd.inp.size})
      else if op=21 then .val (.num 0) {wd with out:=wd.out++[(IntKind.u8.wrap a).toNat]}
      else match doF op a b with
        |some n=>.val (.num n) wd
        |none=>.exn exnD
    |_,_=>stk wd):=by
  unfold opF
  rw [if_neg (by omega),if_neg (by omega),if_neg (by omega),if_neg (by omega),if_neg (by omega)]
  rfl
theorem inp_pos {s:ByteArray} (h:eqS s empS=false):0<(bts s).length:=by
  rcases Nat.eq_zero_or_pos (bts s).length with h0|h0
  · rw [vM] at h0
    have:s=empS:=by
      cases s with
      |mk d=>unfold empS;congr 1;exact Array.eq_empty_of_size_eq_zero h0
    rw [this,show eqS empS empS=true from beq_self_eq_true _] at h
    cases h
  · exact h0
theorem flatY_s (l:List Nat) (n:Nat):flat zV l++[.int .u8 (n:Int)]=flat zV (l++[n]):=by rw [xZ];rfl
theorem lenY (l:List Nat) (n:Nat):(l++[n]).length=l.length+1:=by rw [List.length_append];rfl
theorem u8_nat (a:Int):((IntKind.u8.wrap a).toNat:Int)=IntKind.u8.wrap a:=by
  have:IntKind.u8.wrap a=a % 256:=rfl
  rw [this]
  omega
theorem shr_63 (x:Int) (h:iok x):iok (nU .i64 x 1):=by
  unfold nU iok at *
  have:min (Int.toNat 1) IntKind.i64.bits=1:=by decide
  rw [this,Int.fdiv_eq_ediv_of_nonneg _ (by decide)]
  show -9223372036854775808≤x / 2∧x / 2≤9223372036854775807
  omega
theorem wrap_iok (x:Int):iok (IntKind.i64.wrap x):=by
  have h:IntKind.i64.wrap x=if (x % 18446744073709551616)≥9223372036854775808 then x % 18446744073709551616 - 18446744073709551616 else x % 18446744073709551616:=by
    unfold IntKind.wrap
    simp [IntKind.bits,IntKind.signed]
  rw [h]
  unfold iok
  split<;>omega
theorem w63_iok (n:Int):iok (w63 n):=by
  unfold w63 shlK
  exact shr_63 _ (wrap_iok _)
theorem doF_iok {op a b n:Int} (h:doF op a b=some n):iok n:=by
  unfold doF at h
  split at h
  · cases h
  · split at h
    · cases h
    · cases h;exact w63_iok _
section
attribute [local irreducible] Code.wp wpList Calls Ex Op1 sat bat blk cb own Go.Fw.mp Go.Fw.mpO Go.Fw.mpI Go.Fw.mpE Go.Fw.itr HS Rd Ret wkD Hp Cl Cls Exit.then Exit.inBlock Exit.noGoto bodyPost Go.Fw.flat wk2 Go.Fw.all Go.Fw.owns wpOp
attribute [local irreducible] sk mpK sko mvO xI opM Go.Fw.mset Go.Fw.mv opK w63 frz obI RV

theorem op_spec (w0 w : World) (H :List It) (c:Cx) (TM bM:Nat) (g:Grs) (kd:Int) (rest:List Value) (op:Int) (l:List Vl) (vs:List Value) (oL oO:Option Addr) (cL cO:Nat) (wd:Wd) (sx:Sx) (hH:HS w0 noM (cb bM TM (zJ g kd wd.inp oO wd.out.length cO++rest)::own 5 1 oO wd.out.length cO (flat zV wd.out)::frz w0 c.K::all (sx.map obI)::H) w)
    (hL:∀w,c.K w→Rd w oL vs) (hV:RVs c l vs) (hS:StR c sx wd.st) (hlo:1≤op) (hhi:op≤21) (hop:(l.length:Int)=tT op) (hout:wd.out.length≤1000000) :
    Ret Tryz.prog 92 #[.pointer (some (bat bM 0)),.int .i64 op,.slice oL vs.length cL] w (fun v w'=>Wst w0 c TM bM g kd rest H (opF op l wd) wd v w'):=by
  have hvl:=hV.len
  have hl1:1≤l.length:=by unfold tT at hop;(repeat' split at hop)<;>omega
  have hsp:Sp oL vs.length:=(hL w (hH.frz (by exact MEMT))).sp (sz:=1) (by omega) (by omega)
  obtain ⟨v0,hv0,hx0⟩:=hV.get0 (i:=0) (by omega)
  (refine ENT (N:=153) Tryz.func92 Tryz.ntmps92 ?_;intro a hA)
  by_cases h10:op=10
  · have e:=op_10 (l:=l) (wd:=wd) h10
    have hone:([v0]:List Value).all (·.oneCell')=true:=by simp [hx0.one]
    repeat' (first|(refine XT ?_;apply XE;(first|(apply zD;rfl;rfl;decide;omega;exact hsp)|(apply zC;rfl;exact yJ MEMT hL hv0)|(apply zY;rfl)|(apply rV (vs:=[v0]);rfl;rfl;rfl;exact hone;rfl;exact FLT));clear hA a;intro a hA)|(refine QT ?_;clear hA a;intro a hA)|(refine BT ?_;clear hA hH;rintro _ w ⟨bN,rfl,hH⟩ a hA)|refine CT ?_|(refine DT ?_ ?_<;>intro hc<;>try (exfalso;omega))|fail)
    obtain ⟨hle,hS2⟩:=hS.add (p:=bN) (ob:=.cell v0) (l:=[yI l 0]) ⟨_,rfl,hx0⟩
    have h2:=cW (hH.perm (H':=cb bN 234 [v0]::all (sx.map obI)::cb bM TM (zJ g kd wd.inp oO wd.out.length cO++rest)::own 5 1 oO wd.out.length cO (flat zV wd.out)::frz w0 c.K::H) PMT)
    exact rt2 (.inl rfl) rfl hA rfl rfl (Wst.same hle (h2.perm PMT) (RsV_val e (RV_cl (hS.next _)) rfl) (by rw [e];exact hS2) (by rw [e];rfl) (by rw [e];rfl))
  by_cases h11:op=11
  · have e:=op_11 (l:=l) (wd:=wd) h11
    repeat' (first|(refine XT ?_;apply XE;(first|(apply zD;rfl;rfl;decide;omega;exact hsp)|(apply zC;rfl;exact yJ MEMT hL hv0));clear hA a;intro a hA)|(refine QT ?_;clear hA a;intro a hA)|refine CT ?_|(refine DT ?_ ?_<;>intro hc<;>try (exfalso;omega))|fail)
    rcases hx0.asCl with ⟨i,p,hs,rfl,hio⟩| ⟨hs,hn⟩
    rotate_left
    · rw [hs] at e
      repeat' (first|(refine XT ?_;apply XE;(first|(apply yC;rfl;exact hn));clear hA a;intro a hA)|(refine QT ?_;clear hA a;intro a hA)|refine CT ?_|fail)
      exact rt2 (.inl rfl) rfl hA rfl rfl (Wst.same c.le_refl hH (RsV_stk e rfl) (by rw [e];exact hS) (by rw [e];rfl) (by rw [e];rfl))
    rw [hs] at e
    obtain ⟨u,x,hsx,hst,hux⟩:=cell_of hS hio
    dsimp only at e
    rw [dO hst] at e
    have hiL:=(List.getElem?_eq_some_iff.1 hsx).1
    have hH2:=sto_cell (hH.perm (H':=all (sx.map obI)::cb bM TM (zJ g kd wd.inp oO wd.out.length cO++rest)::own 5 1 oO wd.out.length cO (flat zV wd.out)::frz w0 c.K::H) PMT) hsx
    clear hH
    have hH:=hH2
    clear hH2
    repeat' (first|(refine XT ?_;apply XE;(first|(apply zL;rfl));clear hA a;intro a hA)|(refine QT ?_;clear hA a;intro a hA)|refine CT ?_|fail)
    have h2:=mL hH hiL
    rw [set_self hsx] at h2
    exact rt2 (.inl rfl) rfl hA rfl rfl (Wst.same c.le_refl (h2.perm PMT) (RsV_val e hux rfl) (by rw [e];exact hS) (by rw [e];rfl) (by rw [e];rfl))
  by_cases h12:op=12
  · have e := op_12 (l := l) (wd :=wd) h12
    have hl2 : 2 ≤ l.length := by rw [h12] at hop;have:tT 12=2:=by decide
                                  omega
    obtain ⟨v1,hv1,hx1⟩:=hV.get0 (i:=1) (by omega)
    repeat' (first|(refine XT ?_;apply XE;(first|(apply zD;rfl;rfl;decide;omega;exact hsp)|(apply zC;rfl;exact yJ MEMT hL hv0));clear hA a;intro a hA)|(refine QT ?_;clear hA a;intro a hA)|refine CT ?_|(refine DT ?_ ?_<;>intro hc<;>try (exfalso;omega))|fail)
    rcases hx0.asCl with ⟨i,p,hs,rfl,hio⟩| ⟨hs,hn⟩
    rotate_left
    · rw [hs] at e
      repeat' (first|(refine XT ?_;apply XE;(first|(apply yC;rfl;exact hn));clear hA a;intro a hA)|(refine QT ?_;clear hA a;intro a hA)|refine CT ?_|fail)
      exact rt2 (.inl rfl) rfl hA rfl rfl (Wst.same c.le_refl hH (RsV_stk e rfl) (by rw [e];exact hS) (by rw [e];rfl) (by rw [e];rfl))
    rw [hs] at e
    obtain ⟨u,x,hsx,hst,hux⟩:=cell_of hS hio
    dsimp only at e
    have hiL:=(List.getElem?_eq_some_iff.1 hsx).1
    have hH2:=sto_cell (hH.perm (H':=all (sx.map obI)::cb bM TM (zJ g kd wd.inp oO wd.out.length cO++rest)::own 5 1 oO wd.out.length cO (flat zV wd.out)::frz w0 c.K::H) PMT) hsx
    clear hH
    have hH:=hH2
    clear hH2
    have h1v:=hx1.one
    repeat' (first|(refine XT ?_;apply XE;(first|(apply zL;rfl)|(apply zD;rfl;rfl;decide;omega;exact hsp)|(apply zC;rfl;exact yJ MEMT hL hv1)|(apply zY;rfl));clear hA a;intro a hA)|(refine QT ?_;clear hA a;intro a hA)|(apply zO hA rfl rfl;apply zB (cs':=[v1]);rfl;rfl;exact h1v;exact hH;(repeat constructor);clear hH;rintro _ w hH)|refine CT ?_|fail)
    have h2:=mL hH hiL
    have hS2:=hS.set (ob':=.cell v1) (l:=[yI l 1]) hsx rfl ⟨_,rfl,hx1⟩
    exact rt2 (.inl rfl) rfl hA rfl rfl (Wst.same c.le_refl (h2.perm PMT) (RsV_val e (RV_num ⟨by omega,by omega⟩) rfl) (by rw [e];exact hS2) (by rw [e];rfl) (by rw [e];rfl))
  by_cases htx:op=17∨op=18∨op=19
  · have e := op_tx (l := l) (wd :=wd) htx
    have hopx : (op = 17 ∧ 1 ≤ l.length)∨((op=18∨op=19)∧2≤l.length):=by
      rcases htx with rfl|rfl|rfl
      · exact .inl ⟨rfl,hl1⟩
      · exact .inr ⟨.inl rfl, by have:tT 18=2:=by decide
                                 omega⟩
      · exact .inr ⟨.inr rfl, by have:tT 19=2:=by decide
                                 omega⟩
    have hRw:=fun (w:World) (h:HS w0 noM (cb bM TM (zJ g kd wd.inp oO wd.out.length cO++rest)::own 5 1 oO wd.out.length cO (flat zV wd.out)::frz w0 c.K::all (sx.map obI)::H) w)=>texts_spec w c op l vs oL cL wd (hL w (h.frz (by exact MEMT))) hV hopx
    repeat' (first|(refine QT ?_;clear hA a;intro a hA)|refine CT ?_|(refine DT ?_ ?_<;>intro hc<;>try (exfalso;omega))|fail)
    all_goals
      (refine zH hA rfl rfl (by decide) (zA rfl rfl rfl (hRw _ hH)) ?_;clear hA;rintro _ w ⟨hr,hk⟩ a hA;replace hH:=hH.keep hk;clear hk)
      rw [←e] at hr
      have hwd:(opF op l wd).wd wd=wd:=by rw [e];exact texts_wd
      cases hrs:opF op l wd with
      | val x w'=>
        rw [hrs] at hr hwd
        obtain ⟨u,hu,rfl⟩:=hr
        repeat' (first|(refine QT ?_;clear hA a;intro a hA)|refine CT ?_|fail)
        exact rt2 (.inl rfl) rfl hA rfl rfl (Wst.same c.le_refl hH (RsV_val rfl hu rfl) (by rw [hwd];exact hS) (by rw [hwd]) (by rw [hwd]))
      | exn s=>
        rw [hrs] at hr hwd
        obtain rfl:=hr
        repeat' (first|(refine QT ?_;clear hA a;intro a hA)|refine CT ?_|fail)
        exact rt2 (.inl rfl) rfl hA rfl rfl (Wst.same c.le_refl hH (RsV_exn rfl rfl) (by rw [hwd];exact hS) (by rw [hwd]) (by rw [hwd]))
  by_cases har:op=13∨op=14∨op=15∨op=16
  · have e:=op_ar (l:=l) (wd:=wd) har
    have hopx:(op=13∧2≤l.length)∨(op=14∧2≤l.length)∨(op=15∧3≤l.length)∨(op=16∧1≤l.length):=by
      have a13:tT 13=2:=by decide
      have a14:tT 14=2:=by decide
      have a15:tT 15=3:=by decide
      rcases har with rfl|rfl|rfl|rfl
      · exact .inl ⟨rfl,by omega⟩
      · exact .inr (.inl ⟨rfl,by omega⟩)
      · exact .inr (.inr (.inl ⟨rfl,by omega⟩))
      · exact .inr (.inr (.inr ⟨rfl,hl1⟩))
    have hRw:=fun (w:World) (h:HS w0 noM (cb bM TM (zJ g kd wd.inp oO wd.out.length cO++rest)::own 5 1 oO wd.out.length cO (flat zV wd.out)::frz w0 c.K::all (sx.map obI)::H) w)=>arrays_spec w0 w (cb bM TM (zJ g kd wd.inp oO wd.out.length cO++rest)::own 5 1 oO wd.out.length cO (flat zV wd.out)::H) c op l vs oL cL wd sx (h.perm PMT) hL hV hS hopx
    repeat' (first|(refine QT ?_;clear hA a;intro a hA)|refine CT ?_|(refine DT ?_ ?_<;>intro hc<;>try (exfalso;omega))|fail)
    all_goals
      (refine zH hA rfl rfl (by decide) (zA rfl rfl rfl (hRw _ hH)) ?_;clear hA hH;rintro _ w ⟨d,sx2,⟨hle,hb9⟩,hH,hr,hS2⟩ a hA)
      rw [←e] at hr hS2
      have hio:=arrays_io (op:=op) (l:=l) (wd:=wd)
      rw [←e] at hio
      cases hrs:opF op l wd with
      | val x w'=>
        rw [hrs] at hr hS2 hio
        obtain ⟨u,hu,rfl⟩:=hr
        repeat' (first|(refine QT ?_;clear hA a;intro a hA)|refine CT ?_|fail)
        exact rt2 (.inl rfl) rfl hA rfl rfl (Wst.same hle (hH.perm PMT) (RsV_val rfl hu rfl) hS2 hio.1 hio.2 hb9)
      | exn s=>
        rw [hrs] at hr hS2 hio
        obtain rfl:=hr
        repeat' (first|(refine QT ?_;clear hA a;intro a hA)|refine CT ?_|fail)
        exact rt2 (.inl rfl) rfl hA rfl rfl (Wst.same hle (hH.perm PMT) (RsV_exn rfl rfl) hS2 hio.1 hio.2 hb9)
  have e:=op_num (l:=l) (wd:=wd) (op:=op) (by omega)
  repeat' (first|(refine XT ?_;apply XE;(first|(apply zD;rfl;rfl;decide;omega;exact hsp)|(apply zC;rfl;exact yJ MEMT hL hv0));clear hA a;intro a hA)|(refine QT ?_;clear hA a;intro a hA)|refine CT ?_|(refine DT ?_ ?_<;>intro hc<;>try (exfalso;omega))|fail)
  replace hA:Sl 153 [(81,v0),(0,.pointer (some (bat bM 0))),(1,.int .i64 op),(2,.slice oL vs.length cL)] a:=(hA.sub SBT)
  rcases hx0.asNum with ⟨m,hs,rfl,hmo⟩| ⟨hs,hn⟩
  rotate_left
  · rw [hs] at e
    rcases Nat.lt_or_ge 1 l.length with h2|h2
    · obtain ⟨v1,hv1,hx1⟩:=hV.get0 (i:=1) (by omega)
      rcases hx1.asNum with ⟨y,hy,rfl,hyo⟩| ⟨hy,hn1⟩
      · repeat' (first|(refine GT ?_ ?_<;>intro hg<;>clear hA a<;>intro a hA<;>(first|exact FA|replace hg:=dTr hg|replace hg:=dFa hg|skip))|(refine XT ?_;apply XE;(first|(apply zD;rfl;rfl;decide;omega;exact hsp)|(apply yC;rfl;exact hn)|(apply zC;rfl;exact yJ MEMT hL hv1)|(apply zL;rfl));clear hA a;intro a hA)|(refine QT ?_;clear hA a;intro a hA)|refine CT ?_|(refine DT ?_ ?_<;>intro hc<;>try (exfalso;omega))|fail)
        exact rt2 (.inl rfl) rfl hA rfl rfl (Wst.same c.le_refl hH (RsV_stk e rfl) (by rw [e];exact hS) (by rw [e];rfl) (by rw [e];rfl))
      · repeat' (first|(refine GT ?_ ?_<;>intro hg<;>clear hA a<;>intro a hA<;>(first|exact FA|replace hg:=dTr hg|replace hg:=dFa hg|skip))|(refine XT ?_;apply XE;(first|(apply zD;rfl;rfl;decide;omega;exact hsp)|(apply yC;rfl;exact hn)|(apply zC;rfl;exact yJ MEMT hL hv1)|(apply yC;rfl;exact hn1));clear hA a;intro a hA)|(refine QT ?_;clear hA a;intro a hA)|refine CT ?_|(refine DT ?_ ?_<;>intro hc<;>try (exfalso;omega))|fail)
        exact rt2 (.inl rfl) rfl hA rfl rfl (Wst.same c.le_refl hH (RsV_stk e rfl) (by rw [e];exact hS) (by rw [e];rfl) (by rw [e];rfl))
    · repeat' (first|(refine XT ?_;apply XE;(first|(apply yC;rfl;exact hn));clear hA a;intro a hA)|(refine QT ?_;clear hA a;intro a hA)|refine CT ?_|(refine DT ?_ ?_<;>intro hc<;>try (exfalso;omega))|fail)
      exact rt2 (.inl rfl) rfl hA rfl rfl (Wst.same c.le_refl hH (RsV_stk e rfl) (by rw [e];exact hS) (by rw [e];rfl) (by rw [e];rfl))
  rcases Nat.lt_or_ge 1 l.length with h2|h2
  · obtain ⟨v1,hv1,hx1⟩:=hV.get0 (i:=1) (by omega)
    rcases hx1.asNum with ⟨y,hy,rfl,hyo⟩| ⟨hy,hn1⟩
    · rw [hs,if_pos h2,hy] at e
      dsimp only at e
      by_cases h20:op=20
      · rw [if_pos h20] at e
        cases hem:eqS wd.inp empS with
        | true=>
          rw [if_pos hem] at e
          repeat' (first|(refine GT ?_ ?_<;>intro hg<;>clear hA a<;>intro a hA<;>(first|exact FA|replace hg:=dTr hg|replace hg:=dFa hg|skip))|(refine XT ?_;apply XE;(first|(apply zD;rfl;rfl;decide;omega;exact hsp)|(apply zY;rfl)|(apply zL;rfl)|(apply zC;rfl;exact yJ MEMT hL hv1)|(apply rP;rfl;rfl));clear hA a;intro a hA)|(refine QT ?_;clear hA a;intro a hA)|refine CT ?_|(refine DT ?_ ?_<;>intro hc<;>try (exfalso;omega))|fail)
          · exact rt2 (.inl rfl) rfl hA rfl rfl (Wst.same c.le_refl hH (RsV_val e (RV_num ⟨by omega,by omega⟩) rfl) (by rw [e];exact hS) (by rw [e];rfl) (by rw [e];rfl))
          · exact absurd (hem.symm.trans (by assumption:eqS wd.inp empS=false)) (by decide)
        | false=>
          rw [if_neg (by rw [hem];decide)] at e
          have hip:=inp_pos hem
          have hby:=lK wd.inp 0
          have hsz:1≤wd.inp.size:=by rw [←vM];omega
          repeat' (first|(refine GT ?_ ?_<;>intro hg<;>clear hA a<;>intro a hA<;>(first|exact FA|replace hg:=dTr hg|replace hg:=dFa hg|skip))|(refine XT ?_;apply XE;(first|(apply zD;rfl;rfl;decide;omega;exact hsp)|(apply zY;rfl)|(apply zL;rfl)|(apply zC;rfl;exact yJ MEMT hL hv1)|(apply rP;rfl;rfl)|(apply vO (j:=0);rfl;rfl;rfl;exact lJ hip)|(apply rB (i:=1);rfl;rfl;rfl;exact hsz)|(apply uA;rfl;exact vB (by unfold sM;omega)));clear hA a;intro a hA)|(refine QT ?_;clear hA a;intro a hA)|(apply zO hA rfl rfl;apply zB (cs':=zJ g kd (wd.inp.extract 1 wd.inp.size) oO wd.out.length cO++rest);rfl;rfl;rfl;exact hH;(repeat constructor);clear hH;rintro _ w hH)|refine CT ?_|(refine DT ?_ ?_<;>intro hc<;>try (exfalso;omega))|fail)
          · exact absurd (hem.symm.trans (by assumption:eqS wd.inp empS=true)) (by decide)
          · exact rt2 (.inl rfl) rfl hA rfl rfl ⟨c,sx,oO,cO,⟨c.le_refl,Nat.le_succ _⟩,by rw [e];exact hH,RsV_val e (RV_num ⟨by omega,by omega⟩) rfl,by rw [e];exact hS⟩
      by_cases h21:op=21
      · rw [if_neg h20,if_pos h21] at e
        have hu8:=(u8_nat m).symm
        repeat' (first|(refine GT ?_ ?_<;>intro hg<;>clear hA a<;>intro a hA<;>(first|exact FA|replace hg:=dTr hg|replace hg:=dFa hg|skip))|(refine XT ?_;apply XE;(first|(apply zD;rfl;rfl;decide;omega;exact hsp)|(apply zL;rfl)|(apply zC;rfl;exact yJ MEMT hL hv1)|(apply uA;rfl;exact hu8));clear hA a;intro a hA)|(refine QT ?_;clear hA a;intro a hA)|(refine LT ?_;clear hA hH;rintro _ w ⟨oN,rfl,hH⟩ a hA)|(refine AT ?_;clear hA;rintro _ w ⟨oN,cN,rfl,hH2⟩ a hA;clear hH;have hH:=(hH2 _ (by (repeat constructor))).tail;clear hH2)|refine CT ?_|(refine DT ?_ ?_<;>intro hc<;>try (exfalso;omega))|fail)
        rw [flatY_s] at hH
        repeat' (first|(refine XT ?_;apply XE;(first|(apply zY;rfl));clear hA a;intro a hA)|(refine QT ?_;clear hA a;intro a hA)|(apply zO hA rfl rfl;apply zB (cs':=zJ g kd wd.inp oN (wd.out.length+1) cN++rest);rfl;rfl;rfl;exact hH;(repeat constructor);clear hH;rintro _ w hH)|refine CT ?_|fail)
        refine rt2 (.inl rfl) rfl hA rfl rfl ⟨c,sx,oN,cN,⟨c.le_refl,Nat.le_succ _⟩,?_,RsV_val e (RV_num ⟨by omega,by omega⟩) rfl,by rw [e];exact hS⟩
        rw [e]
        show HS w0 noM (cb bM TM (zJ g kd wd.inp oN (wd.out++[(IntKind.u8.wrap m).toNat]).length cN++rest)::own 5 1 oN (wd.out++[(IntKind.u8.wrap m).toNat]).length cN _::_) w
        rw [lenY]
        exact hH.perm PMT
      rw [if_neg h20,if_neg h21] at e
      repeat' (first|(refine GT ?_ ?_<;>intro hg<;>clear hA a<;>intro a hA<;>(first|exact FA|replace hg:=dTr hg|replace hg:=dFa hg|skip))|(refine XT ?_;apply XE;(first|(apply zD;rfl;rfl;decide;omega;exact hsp)|(apply zL;rfl)|(apply zC;rfl;exact yJ MEMT hL hv1));clear hA a;intro a hA)|(refine QT ?_;clear hA a;intro a hA)|refine CT ?_|(refine DT ?_ ?_<;>intro hc<;>try (exfalso;omega))|fail)
      (refine zH hA rfl rfl (by decide) (zA rfl rfl rfl (Do_spec _ op m y)) ?_;clear hA;rintro _ w ⟨hk,hdo⟩ a hA;replace hH:=hH.keep hk;clear hk)
      rcases hdo with ⟨x,hdo,rfl⟩| ⟨er,her,hdo,rfl⟩
      · rw [hdo] at e
        repeat' (first|(refine XT ?_;apply XE;(first|(apply zY;rfl));clear hA a;intro a hA)|(refine QT ?_;clear hA a;intro a hA)|refine CT ?_|fail)
        exact rt2 (.inl rfl) rfl hA rfl rfl (Wst.same c.le_refl hH (RsV_val e (RV_num (doF_iok hdo)) rfl) (by rw [e];exact hS) (by rw [e];rfl) (by rw [e];rfl))
      · rw [hdo] at e
        repeat' (first|(refine QT ?_;clear hA a;intro a hA)|refine CT ?_|(refine DT ?_ ?_<;>intro hc<;>try (exfalso;omega))|fail)
        exact rt2 (.inl rfl) rfl hA rfl rfl (Wst.same c.le_refl hH (RsV_exn e rfl) (by rw [e];exact hS) (by rw [e];rfl) (by rw [e];rfl))
    · rw [hs,if_pos h2,hy] at e
      repeat' (first|(refine GT ?_ ?_<;>intro hg<;>clear hA a<;>intro a hA<;>(first|exact FA|replace hg:=dTr hg|replace hg:=dFa hg|skip))|(refine XT ?_;apply XE;(first|(apply zD;rfl;rfl;decide;omega;exact hsp)|(apply zL;rfl)|(apply zC;rfl;exact yJ MEMT hL hv1)|(apply yC;rfl;exact hn1));clear hA a;intro a hA)|(refine QT ?_;clear hA a;intro a hA)|refine CT ?_|(refine DT ?_ ?_<;>intro hc<;>try (exfalso;omega))|fail)
      exact rt2 (.inl rfl) rfl hA rfl rfl (Wst.same c.le_refl hH (RsV_stk e rfl) (by rw [e];exact hS) (by rw [e];rfl) (by rw [e];rfl))
  · rw [hs,if_neg (by omega)] at e
    dsimp only at e
    by_cases h20:op=20
    · rw [if_pos h20] at e
      cases hem:eqS wd.inp empS with
      | true=>
        rw [if_pos hem] at e
        repeat' (first|(refine XT ?_;apply XE;(first|(apply zY;rfl)|(apply zL;rfl)|(apply rP;rfl;rfl));clear hA a;intro a hA)|(refine QT ?_;clear hA a;intro a hA)|refine CT ?_|(refine DT ?_ ?_<;>intro hc<;>try (exfalso;omega))|fail)
        · exact rt2 (.inl rfl) rfl hA rfl rfl (Wst.same c.le_refl hH (RsV_val e (RV_num ⟨by omega,by omega⟩) rfl) (by rw [e];exact hS) (by rw [e];rfl) (by rw [e];rfl))
        · exact absurd (hem.symm.trans (by assumption:eqS wd.inp empS=false)) (by decide)
      | false=>
        rw [if_neg (by rw [hem];decide)] at e
        have hip:=inp_pos hem
        have hby:=lK wd.inp 0
        have hsz:1≤wd.inp.size:=by rw [←vM];omega
        repeat' (first|(refine XT ?_;apply XE;(first|(apply zY;rfl)|(apply zL;rfl)|(apply rP;rfl;rfl)|(apply vO (j:=0);rfl;rfl;rfl;exact lJ hip)|(apply rB (i:=1);rfl;rfl;rfl;exact hsz)|(apply uA;rfl;exact vB (by unfold sM;omega)));clear hA a;intro a hA)|(refine QT ?_;clear hA a;intro a hA)|(apply zO hA rfl rfl;apply zB (cs':=zJ g kd (wd.inp.extract 1 wd.inp.size) oO wd.out.length cO++rest);rfl;rfl;rfl;exact hH;(repeat constructor);clear hH;rintro _ w hH)|refine CT ?_|(refine DT ?_ ?_<;>intro hc<;>try (exfalso;omega))|fail)
        · exact absurd (hem.symm.trans (by assumption:eqS wd.inp empS=true)) (by decide)
        · exact rt2 (.inl rfl) rfl hA rfl rfl ⟨c,sx,oO,cO,⟨c.le_refl,Nat.le_succ _⟩,by rw [e];exact hH,RsV_val e (RV_num ⟨by omega,by omega⟩) rfl,by rw [e];exact hS⟩
    by_cases h21:op=21
    · rw [if_neg h20,if_pos h21] at e
      have hu8:=(u8_nat m).symm
      repeat' (first|(refine XT ?_;apply XE;(first|(apply zL;rfl)|(apply uA;rfl;exact hu8));clear hA a;intro a hA)|(refine QT ?_;clear hA a;intro a hA)|(refine LT ?_;clear hA hH;rintro _ w ⟨oN,rfl,hH⟩ a hA)|(refine AT ?_;clear hA;rintro _ w ⟨oN,cN,rfl,hH2⟩ a hA;clear hH;have hH:=(hH2 _ (by (repeat constructor))).tail;clear hH2)|refine CT ?_|(refine DT ?_ ?_<;>intro hc<;>try (exfalso;omega))|fail)
      rw [flatY_s] at hH
      repeat' (first|(refine XT ?_;apply XE;(first|(apply zY;rfl));clear hA a;intro a hA)|(refine QT ?_;clear hA a;intro a hA)|(apply zO hA rfl rfl;apply zB (cs':=zJ g kd wd.inp oN (wd.out.length+1) cN++rest);rfl;rfl;rfl;exact hH;(repeat constructor);clear hH;rintro _ w hH)|refine CT ?_|fail)
      refine rt2 (.inl rfl) rfl hA rfl rfl ⟨c,sx,oN,cN,⟨c.le_refl,Nat.le_succ _⟩,?_,RsV_val e (RV_num ⟨by omega,by omega⟩) rfl,by rw [e];exact hS⟩
      rw [e]
      show HS w0 noM (cb bM TM (zJ g kd wd.inp oN (wd.out++[(IntKind.u8.wrap m).toNat]).length cN++rest)::own 5 1 oN (wd.out++[(IntKind.u8.wrap m).toNat]).length cN _::_) w
      rw [lenY]
      exact hH.perm PMT
    rw [if_neg h20,if_neg h21] at e
    repeat' (first|(refine XT ?_;apply XE;(first|(apply zL;rfl));clear hA a;intro a hA)|(refine QT ?_;clear hA a;intro a hA)|refine CT ?_|(refine DT ?_ ?_<;>intro hc<;>try (exfalso;omega))|fail)
    (refine zH hA rfl rfl (by decide) (zA rfl rfl rfl (Do_spec _ op m 0)) ?_;clear hA;rintro _ w ⟨hk,hdo⟩ a hA;replace hH:=hH.keep hk;clear hk)
    rcases hdo with ⟨x,hdo,rfl⟩| ⟨er,her,hdo,rfl⟩
    · rw [hdo] at e
      repeat' (first|(refine XT ?_;apply XE;(first|(apply zY;rfl));clear hA a;intro a hA)|(refine QT ?_;clear hA a;intro a hA)|refine CT ?_|fail)
      exact rt2 (.inl rfl) rfl hA rfl rfl (Wst.same c.le_refl hH (RsV_val e (RV_num (doF_iok hdo)) rfl) (by rw [e];exact hS) (by rw [e];rfl) (by rw [e];rfl))
    · rw [hdo] at e
      repeat' (first|(refine QT ?_;clear hA a;intro a hA)|refine CT ?_|(refine DT ?_ ?_<;>intro hc<;>try (exfalso;omega))|fail)
      exact rt2 (.inl rfl) rfl hA rfl rfl (Wst.same c.le_refl hH (RsV_exn e rfl) (by rw [e];exact hS) (by rw [e];rfl) (by rw [e];rfl))
end
theorem pl_1 {r:Stp} {l cs:List Vl} {wd:Wd} (h:r.k=1):yH r l cs wd= .val (yI l 0) wd:=by unfold yH;rw [h];rfl
theorem pl_2 {r:Stp} {l cs:List Vl} {wd:Wd} (h:r.k=2):yH r l cs wd=opF r.n l wd:=by unfold yH;rw [h];rfl
theorem pl_4 {r:Stp} {l cs:List Vl} {wd:Wd} (h:r.k=4):yH r l cs wd= .val (.fn r.n l) wd:=by unfold yH;rw [h];rfl
theorem pl_5 {r:Stp} {l cs:List Vl} {wd:Wd} (h:r.k=5):yH r l cs wd= .val (yI cs r.n.toNat) wd:=by unfold yH;rw [h];rfl
theorem pl_6 {r:Stp} {l cs:List Vl} {wd:Wd} (h:r.k=6):yH r l cs wd= .val (.rc r.ns.l l) wd:=by unfold yH;rw [h];rfl
theorem pl_7 {r:Stp} {l cs:List Vl} {wd:Wd} (h:r.k=7):yH r l cs wd=(match asRc (yI l 0) with
    |some (ns,xs)=>if bsB ns r.n then .val (.rc ns (xs.set (bsI ns r.n) (yI l 1))) wd else .val (.rc (ns.insertIdx (bsI ns r.n) r.n) (xs.insertIdx (bsI ns r.n) (yI l 1))) wd
    |none=>stk wd):=by unfold yH;rw [h];rfl
theorem pl_8 {r:Stp} {l cs:List Vl} {wd:Wd} (h:r.k=8):yH r l cs wd=(match asRc (yI l 0) with
    |some (ns,xs)=>if bsB ns r.n then .val (yI xs (bsI ns r.n)) wd else stk wd
    |none=>stk wd):=by unfold yH;rw [h];rfl
theorem pl_9 {r:Stp} {l cs:List Vl} {wd:Wd} (h:r.k=9):yH r l cs wd= .val (.tg r.n (yI l 0)) wd:=by unfold yH;rw [h];rfl
theorem pl_10 {r:Stp} {l cs:List Vl} {wd:Wd} (h:r.k=10):yH r l cs wd=(match asTg (yI l 0) with
    |some (n,x)=>.val (.num n) wd
    |none=>stk wd):=by unfold yH;rw [h];rfl
theorem pl_11 {r:Stp} {l cs:List Vl} {wd:Wd} (h:r.k=11):yH r l cs wd=(match asTg (yI l 0) with
    |some (n,x)=>.val x wd
    |none=>stk wd):=by unfold yH;rw [h];rfl
theorem pl_12 {r:Stp} {l cs:List Vl} {wd:Wd} (h:r.k=12):yH r l cs wd=(match asTxt (yI l 0),asTxt (yI l 1) with
    |some s,some t=>.val (.num (tru (eqS s t))) wd
    |_,_=>stk wd):=by unfold yH;rw [h];rfl
theorem RV_rc {c:Cx} {ns:List Int} {l:List Vl} {p cn cl:Nat} {on ol:Option Addr} {vs:List Value} (h1:ns.length=l.length∧ns.length≤c.bd∧ns.length≤cn∧cn≤maxLen∧l.length≤cl∧cl≤maxLen) (h2:∀w,c.K w→RdB w p [.slice on ns.length cn,.slice ol l.length cl]) (h3:∀w,c.K w→Rd w on (flat Fw.encI ns)) (h4:∀w,c.K w→Rd w ol vs) (h5:RVs c l vs):RV c (.rc ns l) (vY 194 p):=by
  rw [RV]
  exact ⟨p,on,cn,ol,cl,vs,rfl,h1,h2,h3,h4,h5⟩
theorem RV_tg {c:Cx} {n:Int} {x:Vl} {u:Value} {p:Nat} (h1:iok n) (h2:∀w,c.K w→RdB w p [.int .i64 n,u]) (h3:RV c x u):RV c (.tg n x) (vY 202 p):=by
  rw [RV]
  exact ⟨p,u,rfl,h1,h2,h3⟩
theorem Cx.more (c:Cx) (K1:World→Prop):c.le {c with K:=fun w=>K1 w∧c.K w}:=⟨fun w h=>h.2,⟨[],(List.append_nil _).symm⟩,Nat.le_refl _,rfl⟩
theorem StR.more {c:Cx} {sx:Sx} {st:List (List Vl)} (h:StR c sx st) (K1:World→Prop):StR {c with K:=fun w=>K1 w∧c.K w} sx st:=h.le (c.more K1) rfl
section
attribute [local irreducible] Code.wp wpList Calls Ex Op1 sat bat blk cb own Go.Fw.mp Go.Fw.mpO Go.Fw.mpI Go.Fw.mpE Go.Fw.itr HS Rd Ret wkD Hp Cl Cls Exit.then Exit.inBlock Exit.noGoto bodyPost Go.Fw.flat wk2 Go.Fw.all Go.Fw.owns wpOp
attribute [local irreducible] sk mpK sko mvO xI opM Go.Fw.mset Go.Fw.mv opK w63 frz obI RV

theorem Plain1_spec (w0 w:World) (H:List It) (c:Cx) (TM bM:Nat) (g:Grs) (kd:Int) (rest:List Value) (caps:List Int) (mine:Int) (r:Stp) (l:List Vl) (vs:List Value) (oL oO:Option Addr) (cL cO:Nat) (wd:Wd) (sx:Sx) (f:Int) (cs:List Vl) (pc:Nat) (hH:HS w0 noM (cb bM TM (zJ g kd wd.inp oO wd.out.length cO++rest)::own 5 1 oO wd.out.length cO (flat zV wd.out)::frz w0 c.K::all (sx.map obI)::H) w) (hL:∀w,c.K w→Rd w oL vs) (hlc:vs.length≤cL∧cL≤maxLen) (hV:RVs c l vs) (hS:StR c sx wd.st) (hF:FormP g caps mine r) (hrl:l.length=r.a.l.length) (hnf:c.nf=caps.length) (hcf:FnR c f cs pc) (hK0:∀w,c.K w→Kp w0 noM w) (hN:RdV w0 Fw.encI r.ns) (hbn:r.ns.l.length≤c.bd) (hbd:c.bd≤1000000) (hout:wd.out.length≤1000000) (hlab:g.ts.l.length≤9223372036854775807) (hk:r.k=1):Ret Tryz.prog 50 #[.pointer (some (bat bM 0)),.agg (yG r).toArray,.slice oL vs.length cL,.pointer (some (bat pc 0))] w (fun v w'=>Wst w0 c TM bM g kd rest H (yH r l cs wd) wd v w'):=by
  have hvl:=hV.len
  have hw:=hF.want
  have hnum:=hF.num
  have hsp:Sp oL vs.length:=(hL w (hH.frz (by exact MEMT))).sp (sz:=1) (by omega) (by omega)
  have e:=pl_1 (r:=r) (l:=l) (cs:=cs) (wd:=wd) hk
  rw [(w_1 (g:=g) (mine:=mine) (.inl hk)).1] at hw
  rw [(w_1 (g:=g) (mine:=mine) (.inl hk)).2] at hnum
  obtain ⟨v0,hv0,hx0⟩:=hV.get0 (i:=0) (by omega)
  (refine ENT (N:=238) Tryz.func50 Tryz.ntmps50 ?_;intro a hA)
  repeat' (first|(refine XT ?_;apply XE;(first|(apply zD;rfl;rfl;decide;omega;exact hsp)|(apply zC;rfl;exact yJ MEMT hL hv0));clear hA a;intro a hA)|(refine QT ?_;clear hA a;intro a hA)|(refine BT ?_;clear hA hH;rintro _ w ⟨bN,rfl,hH⟩ a hA)|refine CT ?_|(refine DT ?_ ?_<;>intro hc<;>try (exfalso;omega))|fail)
  exact rt2 (.inl rfl) rfl hA rfl rfl (Wst.same c.le_refl (hH.tail) (RsV_val e hx0 rfl) (by rw [e];exact hS) (by rw [e];rfl) (by rw [e];rfl))
theorem Plain4_spec (w0 w:World) (H:List It) (c:Cx) (TM bM:Nat) (g:Grs) (kd:Int) (rest:List Value) (caps:List Int) (mine:Int) (r:Stp) (l:List Vl) (vs:List Value) (oL oO:Option Addr) (cL cO:Nat) (wd:Wd) (sx:Sx) (f:Int) (cs:List Vl) (pc:Nat) (hH:HS w0 noM (cb bM TM (zJ g kd wd.inp oO wd.out.length cO++rest)::own 5 1 oO wd.out.length cO (flat zV wd.out)::frz w0 c.K::all (sx.map obI)::H) w) (hL:∀w,c.K w→Rd w oL vs) (hlc:vs.length≤cL∧cL≤maxLen) (hV:RVs c l vs) (hS:StR c sx wd.st) (hF:FormP g caps mine r) (hrl:l.length=r.a.l.length) (hnf:c.nf=caps.length) (hcf:FnR c f cs pc) (hK0:∀w,c.K w→Kp w0 noM w) (hN:RdV w0 Fw.encI r.ns) (hbn:r.ns.l.length≤c.bd) (hbd:c.bd≤1000000) (hout:wd.out.length≤1000000) (hlab:g.ts.l.length≤9223372036854775807) (hk:r.k=4):Ret Tryz.prog 50 #[.pointer (some (bat bM 0)),.agg (yG r).toArray,.slice oL vs.length cL,.pointer (some (bat pc 0))] w (fun v w'=>Wst w0 c TM bM g kd rest H (yH r l cs wd) wd v w'):=by
  have hvl:=hV.len
  have hw:=hF.want
  have hnum:=hF.num
  have hsp:Sp oL vs.length:=(hL w (hH.frz (by exact MEMT))).sp (sz:=1) (by omega) (by omega)
  have e:=pl_4 (r:=r) (l:=l) (cs:=cs) (wd:=wd) hk
  rw [(w_4 (g:=g) (mine:=mine) hk).1] at hw
  rw [(w_4 (g:=g) (mine:=mine) hk).2] at hnum
  (refine ENT (N:=238) Tryz.func50 Tryz.ntmps50 ?_;intro a hA)
  repeat' (first|(refine XT ?_;apply XE;(first|(apply zY;rfl));clear hA a;intro a hA)|(refine QT ?_;clear hA a;intro a hA)|(refine BT ?_;clear hA hH;rintro _ w ⟨bN,rfl,hH⟩ a hA)|refine CT ?_|(refine DT ?_ ?_<;>intro hc<;>try (exfalso;omega))|fail)
  have h1:=((hH.rm 1).perm (H':=cb bN 90 [.int .i64 r.n,.slice oL vs.length cL]::frz w0 c.K::cb bM TM (zJ g kd wd.inp oO wd.out.length cO++rest)::own 5 1 oO wd.out.length cO (flat zV wd.out)::all (sx.map obI)::H) PMT).frz_cb
  have hle:=c.more (fun w=>RdB w bN [.int .i64 r.n,.slice oL vs.length cL])
  exact rt2 (.inl rfl) rfl hA rfl rfl (Wst.same hle (h1.perm PMT) (RsV_val e (FnR.rv ⟨oL,cL,vs,⟨hnum.1,by rw [hnf];exact hnum.2⟩,fun w h=>by rw [←hvl];exact h.1,fun w h=>hL w h.2,RVs.mono hle _ _ hV⟩) rfl) (by rw [e];exact hS.more _) (by rw [e];rfl) (by rw [e];rfl))
theorem Plain6_spec (w0 w:World) (H:List It) (c:Cx) (TM bM:Nat) (g:Grs) (kd:Int) (rest:List Value) (caps:List Int) (mine:Int) (r:Stp) (l:List Vl) (vs:List Value) (oL oO:Option Addr) (cL cO:Nat) (wd:Wd) (sx:Sx) (f:Int) (cs:List Vl) (pc:Nat) (hH:HS w0 noM (cb bM TM (zJ g kd wd.inp oO wd.out.length cO++rest)::own 5 1 oO wd.out.length cO (flat zV wd.out)::frz w0 c.K::all (sx.map obI)::H) w) (hL:∀w,c.K w→Rd w oL vs) (hlc:vs.length≤cL∧cL≤maxLen) (hV:RVs c l vs) (hS:StR c sx wd.st) (hF:FormP g caps mine r) (hrl:l.length=r.a.l.length) (hnf:c.nf=caps.length) (hcf:FnR c f cs pc) (hK0:∀w,c.K w→Kp w0 noM w) (hN:RdV w0 Fw.encI r.ns) (hbn:r.ns.l.length≤c.bd) (hbd:c.bd≤1000000) (hout:wd.out.length≤1000000) (hlab:g.ts.l.length≤9223372036854775807) (hk:r.k=6):Ret Tryz.prog 50 #[.pointer (some (bat bM 0)),.agg (yG r).toArray,.slice oL vs.length cL,.pointer (some (bat pc 0))] w (fun v w'=>Wst w0 c TM bM g kd rest H (yH r l cs wd) wd v w'):=by
  have hvl:=hV.len
  have hw:=hF.want
  have hnum:=hF.num
  have hsp:Sp oL vs.length:=(hL w (hH.frz (by exact MEMT))).sp (sz:=1) (by omega) (by omega)
  have e:=pl_6 (r:=r) (l:=l) (cs:=cs) (wd:=wd) hk
  rw [(w_6 (g:=g) (mine:=mine) hk).1] at hw
  rw [(w_6 (g:=g) (mine:=mine) hk).2] at hnum
  (refine ENT (N:=238) Tryz.func50 Tryz.ntmps50 ?_;intro a hA)
  repeat' (first|(refine XT ?_;apply XE;(first|(apply zY;rfl));clear hA a;intro a hA)|(refine QT ?_;clear hA a;intro a hA)|(refine BT ?_;clear hA hH;rintro _ w ⟨bN,rfl,hH⟩ a hA)|refine CT ?_|(refine DT ?_ ?_<;>intro hc<;>try (exfalso;omega))|fail)
  have h1:=((hH.rm 1).perm (H':=cb bN 196 [.slice r.ns.o r.ns.l.length r.ns.c,.slice oL vs.length cL]::frz w0 c.K::cb bM TM (zJ g kd wd.inp oO wd.out.length cO++rest)::own 5 1 oO wd.out.length cO (flat zV wd.out)::all (sx.map obI)::H) PMT).frz_cb
  have hle:=c.more (fun w=>RdB w bN [.slice r.ns.o r.ns.l.length r.ns.c,.slice oL vs.length cL])
  exact rt2 (.inl rfl) rfl hA rfl rfl (Wst.same hle (h1.perm PMT) (RsV_val e (RV_rc (p:=bN) (on:=r.ns.o) (cn:=r.ns.c) (ol:=oL) (cl:=cL) (vs:=vs) ⟨by omega,hbn,hN.2.1,hN.2.2,by omega,hlc.2⟩ (fun w h=>by rw [←hvl];exact h.1) (fun w h=>(hN.keep (hK0 w h.2)).1) (fun w h=>hL w h.2) (RVs.mono hle _ _ hV)) rfl) (by rw [e];exact hS.more _) (by rw [e];rfl) (by rw [e];rfl))
theorem Plain9_spec (w0 w:World) (H:List It) (c:Cx) (TM bM:Nat) (g:Grs) (kd:Int) (rest:List Value) (caps:List Int) (mine:Int) (r:Stp) (l:List Vl) (vs:List Value) (oL oO:Option Addr) (cL cO:Nat) (wd:Wd) (sx:Sx) (f:Int) (cs:List Vl) (pc:Nat) (hH:HS w0 noM (cb bM TM (zJ g kd wd.inp oO wd.out.length cO++rest)::own 5 1 oO wd.out.length cO (flat zV wd.out)::frz w0 c.K::all (sx.map obI)::H) w) (hL:∀w,c.K w→Rd w oL vs) (hlc:vs.length≤cL∧cL≤maxLen) (hV:RVs c l vs) (hS:StR c sx wd.st) (hF:FormP g caps mine r) (hrl:l.length=r.a.l.length) (hnf:c.nf=caps.length) (hcf:FnR c f cs pc) (hK0:∀w,c.K w→Kp w0 noM w) (hN:RdV w0 Fw.encI r.ns) (hbn:r.ns.l.length≤c.bd) (hbd:c.bd≤1000000) (hout:wd.out.length≤1000000) (hlab:g.ts.l.length≤9223372036854775807) (hk:r.k=9):Ret Tryz.prog 50 #[.pointer (some (bat bM 0)),.agg (yG r).toArray,.slice oL vs.length cL,.pointer (some (bat pc 0))] w (fun v w'=>Wst w0 c TM bM g kd rest H (yH r l cs wd) wd v w'):=by
  have hvl:=hV.len
  have hw:=hF.want
  have hnum:=hF.num
  have hsp:Sp oL vs.length:=(hL w (hH.frz (by exact MEMT))).sp (sz:=1) (by omega) (by omega)
  have e:=pl_9 (r:=r) (l:=l) (cs:=cs) (wd:=wd) hk
  rw [(w_9 (g:=g) (mine:=mine) hk).1] at hw
  rw [(w_9 (g:=g) (mine:=mine) hk).2] at hnum
  obtain ⟨v0,hv0,hx0⟩:=hV.get0 (i:=0) (by omega)
  (refine ENT (N:=238) Tryz.func50 Tryz.ntmps50 ?_;intro a hA)
  have hone:([.int .i64 r.n,v0]:List Value).all (·.oneCell')=true:=by simp [hx0.one];rfl
  repeat' (first|(refine QT ?_;clear hA a;intro a hA)|(refine BT ?_;clear hA hH;rintro _ w ⟨bN,rfl,hH⟩ a hA)|refine CT ?_|(refine DT ?_ ?_<;>intro hc<;>try (exfalso;omega))|fail)
  obtain ⟨b5,hb5⟩:∃x,x=bN:=⟨_,rfl⟩
  rw [←hb5] at hA hH
  clear hb5 bN
  (refine zQ [(0,1),(1,1),(2,1),(3,1),(4,1),(5,1),(6,0),(7,1),(8,1),(9,1)] mixed (by decide +kernel) hH ?_;replace hH:=hH.drew)
  repeat' (first|(refine XT ?_;apply XE;(first|(apply zD;rfl;rfl;decide;omega;exact hsp)|(apply zC;rfl;exact yJ MEMT hL hv0)|(apply zY;rfl)|(apply rV (vs:=[.int .i64 r.n,v0]);rfl;rfl;rfl;exact hone;rfl;exact FLT));clear hA a;intro a hA)|(refine QT ?_;clear hA a;intro a hA)|refine CT ?_|(apply yO hA rfl rfl rfl (by decide);apply nX;rfl;exact hH;clear hA hH;rintro _ w ⟨bN,rfl,hH⟩;refine ⟨hH.tail,?_⟩;intro a hA)|fail)
  have h1:=((hH.rm 1).perm (H':=cb bN 204 [.int .i64 r.n,v0]::frz w0 c.K::cb bM TM (zJ g kd wd.inp oO wd.out.length cO++rest)::own 5 1 oO wd.out.length cO (flat zV wd.out)::all (sx.map obI)::H) PMT).frz_cb
  have hle:=c.more (fun w=>RdB w bN [.int .i64 r.n,v0])
  exact rt2 (.inl rfl) rfl hA rfl rfl (Wst.same hle (h1.perm PMT) (RsV_val e (RV_tg ⟨by omega,by omega⟩ (fun w h=>h.1) (RV.mono hle _ _ hx0)) rfl) (by rw [e];exact hS.more _) (by rw [e];rfl) (by rw [e];rfl))
theorem Plain2_spec (w0 w:World) (H:List It) (c:Cx) (TM bM:Nat) (g:Grs) (kd:Int) (rest:List Value) (caps:List Int) (mine:Int) (r:Stp) (l:List Vl) (vs:List Value) (oL oO:Option Addr) (cL cO:Nat) (wd:Wd) (sx:Sx) (f:Int) (cs:List Vl) (pc:Nat) (hH:HS w0 noM (cb bM TM (zJ g kd wd.inp oO wd.out.length cO++rest)::own 5 1 oO wd.out.length cO (flat zV wd.out)::frz w0 c.K::all (sx.map obI)::H) w) (hL:∀w,c.K w→Rd w oL vs) (hlc:vs.length≤cL∧cL≤maxLen) (hV:RVs c l vs) (hS:StR c sx wd.st) (hF:FormP g caps mine r) (hrl:l.length=r.a.l.length) (hnf:c.nf=caps.length) (hcf:FnR c f cs pc) (hK0:∀w,c.K w→Kp w0 noM w) (hN:RdV w0 Fw.encI r.ns) (hbn:r.ns.l.length≤c.bd) (hbd:c.bd≤1000000) (hout:wd.out.length≤1000000) (hlab:g.ts.l.length≤9223372036854775807) (hk:r.k=2):Ret Tryz.prog 50 #[.pointer (some (bat bM 0)),.agg (yG r).toArray,.slice oL vs.length cL,.pointer (some (bat pc 0))] w (fun v w'=>Wst w0 c TM bM g kd rest H (yH r l cs wd) wd v w'):=by
  have hvl:=hV.len
  have hw:=hF.want
  have hnum:=hF.num
  have hsp:Sp oL vs.length:=(hL w (hH.frz (by exact MEMT))).sp (sz:=1) (by omega) (by omega)
  have e:=pl_2 (r:=r) (l:=l) (cs:=cs) (wd:=wd) hk
  rw [(w_2 (g:=g) (mine:=mine) hk).1] at hw
  rw [(w_2 (g:=g) (mine:=mine) hk).2] at hnum
  have hn1:1≤r.n∧r.n≤21:=by
    unfold tT at hw
    (repeat' split at hw)<;>omega
  obtain ⟨hn1,hn2⟩:=hn1
  (refine ENT (N:=238) Tryz.func50 Tryz.ntmps50 ?_;intro a hA)
  have hop:=op_spec
  repeat' (first|(refine QT ?_;clear hA a;intro a hA)|(refine BT ?_;clear hA hH;rintro _ w ⟨bN,rfl,hH⟩ a hA)|refine CT ?_|(refine DT ?_ ?_<;>intro hc<;>try (exfalso;omega))|fail)
  (refine zH hA rfl rfl (by decide) (zA rfl rfl rfl (op_spec w0 _ (cb bN 57 (yG r)::H) c TM bM g kd rest r.n l vs oL oO cL cO wd sx (hH.perm PMT) hL hV hS hn1 hn2 (by omega) hout)) ?_;clear hA hH;rintro _ w ⟨d,sx2,oO2,cO2,hle,hH,hr,hS2⟩ a hA)
  rw [←e] at hr hS2 hH
  cases hrs:yH r l cs wd with
  | val x w'=>
    rw [hrs] at hr hS2 hH
    obtain ⟨u,hu,rfl⟩:=hr
    repeat' (first|(refine QT ?_;clear hA a;intro a hA)|refine CT ?_|fail)
    exact rt2 (.inl rfl) rfl hA rfl rfl ⟨d,sx2,oO2,cO2,hle,hH.rm 4,⟨u,hu,rfl⟩,hS2⟩
  | exn s=>
    rw [hrs] at hr hS2 hH
    obtain rfl:=hr
    repeat' (first|(refine QT ?_;clear hA a;intro a hA)|refine CT ?_|fail)
    exact rt2 (.inl rfl) rfl hA rfl rfl ⟨d,sx2,oO2,cO2,hle,hH.rm 4,rfl,hS2⟩
theorem Plain12_spec (w0 w:World) (H:List It) (c:Cx) (TM bM:Nat) (g:Grs) (kd:Int) (rest:List Value) (caps:List Int) (mine:Int) (r:Stp) (l:List Vl) (vs:List Value) (oL oO:Option Addr) (cL cO:Nat) (wd:Wd) (sx:Sx) (f:Int) (cs:List Vl) (pc:Nat) (hH:HS w0 noM (cb bM TM (zJ g kd wd.inp oO wd.out.length cO++rest)::own 5 1 oO wd.out.length cO (flat zV wd.out)::frz w0 c.K::all (sx.map obI)::H) w) (hL:∀w,c.K w→Rd w oL vs) (hlc:vs.length≤cL∧cL≤maxLen) (hV:RVs c l vs) (hS:StR c sx wd.st) (hF:FormP g caps mine r) (hrl:l.length=r.a.l.length) (hnf:c.nf=caps.length) (hcf:FnR c f cs pc) (hK0:∀w,c.K w→Kp w0 noM w) (hN:RdV w0 Fw.encI r.ns) (hbn:r.ns.l.length≤c.bd) (hbd:c.bd≤1000000) (hout:wd.out.length≤1000000) (hlab:g.ts.l.length≤9223372036854775807) (hk:r.k=12):Ret Tryz.prog 50 #[.pointer (some (bat bM 0)),.agg (yG r).toArray,.slice oL vs.length cL,.pointer (some (bat pc 0))] w (fun v w'=>Wst w0 c TM bM g kd rest H (yH r l cs wd) wd v w'):=by
  have hvl:=hV.len
  have hw:=hF.want
  have hnum:=hF.num
  have hsp:Sp oL vs.length:=(hL w (hH.frz (by exact MEMT))).sp (sz:=1) (by omega) (by omega)
  have e:=pl_12 (r:=r) (l:=l) (cs:=cs) (wd:=wd) hk
  rw [(w_3 (g:=g) (mine:=mine) (.inr (.inl hk))).1] at hw
  rw [(w_3 (g:=g) (mine:=mine) (.inr (.inl hk))).2] at hnum
  obtain ⟨v0,hv0,hx0⟩:=hV.get0 (i:=0) (by omega)
  obtain ⟨v1,hv1,hx1⟩:=hV.get0 (i:=1) (by omega)
  (refine ENT (N:=238) Tryz.func50 Tryz.ntmps50 ?_;intro a hA)
  repeat' (first|(refine XT ?_;apply XE;(first|(apply zD;rfl;rfl;decide;omega;exact hsp)|(apply zC;rfl;exact yJ MEMT hL hv0));clear hA a;intro a hA)|(refine QT ?_;clear hA a;intro a hA)|(refine BT ?_;clear hA hH;rintro _ w ⟨bN,rfl,hH⟩ a hA)|refine CT ?_|(refine DT ?_ ?_<;>intro hc<;>try (exfalso;omega))|fail)
  rcases hx0.asTxt with ⟨s,hs,rfl,hss⟩| ⟨hs,hn⟩
  · repeat' (first|(refine XT ?_;apply XE;(first|(apply zD;rfl;rfl;decide;omega;exact hsp)|(apply zL;rfl)|(apply zC;rfl;exact yJ MEMT hL hv1));clear hA a;intro a hA)|(refine QT ?_;clear hA a;intro a hA)|refine CT ?_|fail)
    rcases hx1.asTxt with ⟨t,ht,rfl,hts⟩| ⟨ht,hn⟩
    · rw [hs,ht] at e
      dsimp only at e
      have htr:iok (tru (eqS s t)):=by unfold tru iok;split<;>omega
      repeat' (first|(refine GT ?_ ?_<;>intro hg<;>clear hA a<;>intro a hA<;>(first|exact FA|replace hg:=dTr hg|replace hg:=dFa hg|skip))|(refine XT ?_;apply XE;(first|(apply zY;rfl)|(apply zL;rfl)|(apply rP;rfl;rfl));clear hA a;intro a hA)|(refine QT ?_;clear hA a;intro a hA)|(refine zH hA rfl rfl (by decide) (zA rfl rfl rfl (Truth_spec _ _)) ?_;clear hA;rintro _ w ⟨rfl,hk⟩ a hA;replace hH:=hH.keep hk;clear hk)|refine CT ?_|fail)
      exact rt2 (.inl rfl) rfl hA rfl rfl (Wst.same c.le_refl (hH.tail) (RsV_val e (RV_num htr) rfl) (by rw [e];exact hS) (by rw [e];rfl) (by rw [e];rfl))
    · rw [hs,ht] at e
      repeat' (first|(refine GT ?_ ?_<;>intro hg<;>clear hA a<;>intro a hA<;>(first|exact FA|replace hg:=dTr hg|replace hg:=dFa hg|skip))|(refine XT ?_;apply XE;(first|(apply yC;rfl;exact hn));clear hA a;intro a hA)|(refine QT ?_;clear hA a;intro a hA)|refine CT ?_|fail)
      exact rt2 (.inl rfl) rfl hA rfl rfl (Wst.same c.le_refl (hH.tail) (RsV_stk e rfl) (by rw [e];exact hS) (by rw [e];rfl) (by rw [e];rfl))
  · rcases hx1.asTxt with ⟨t,ht,rfl,hts⟩| ⟨ht,hn2⟩
    · rw [hs,ht] at e
      repeat' (first|(refine GT ?_ ?_<;>intro hg<;>clear hA a<;>intro a hA<;>(first|exact FA|replace hg:=dTr hg|replace hg:=dFa hg|skip))|(refine XT ?_;apply XE;(first|(apply zD;rfl;rfl;decide;omega;exact hsp)|(apply yC;rfl;exact hn)|(apply zC;rfl;exact yJ MEMT hL hv1)|(apply zL;rfl));clear hA a;intro a hA)|(refine QT ?_;clear hA a;intro a hA)|refine CT ?_|fail)
      exact rt2 (.inl rfl) rfl hA rfl rfl (Wst.same c.le_refl (hH.tail) (RsV_stk e rfl) (by rw [e];exact hS) (by rw [e];rfl) (by rw [e];rfl))
    · rw [hs,ht] at e
      repeat' (first|(refine GT ?_ ?_<;>intro hg<;>clear hA a<;>intro a hA<;>(first|exact FA|replace hg:=dTr hg|replace hg:=dFa hg|skip))|(refine XT ?_;apply XE;(first|(apply zD;rfl;rfl;decide;omega;exact hsp)|(apply yC;rfl;exact hn)|(apply zC;rfl;exact yJ MEMT hL hv1)|(apply yC;rfl;exact hn2));clear hA a;intro a hA)|(refine QT ?_;clear hA a;intro a hA)|refine CT ?_|fail)
      exact rt2 (.inl rfl) rfl hA rfl rfl (Wst.same c.le_refl (hH.tail) (RsV_stk e rfl) (by rw [e];exact hS) (by rw [e];rfl) (by rw [e];rfl))
theorem Plain5_spec (w0 w:World) (H:List It) (c:Cx) (TM bM:Nat) (g:Grs) (kd:Int) (rest:List Value) (caps:List Int) (mine:Int) (r:Stp) (l:List Vl) (vs:List Value) (oL oO:Option Addr) (cL cO:Nat) (wd:Wd) (sx:Sx) (f:Int) (cs:List Vl) (pc:Nat) (hH:HS w0 noM (cb bM TM (zJ g kd wd.inp oO wd.out.length cO++rest)::own 5 1 oO wd.out.length cO (flat zV wd.out)::frz w0 c.K::all (sx.map obI)::H) w) (hL:∀w,c.K w→Rd w oL vs) (hlc:vs.length≤cL∧cL≤maxLen) (hV:RVs c l vs) (hS:StR c sx wd.st) (hF:FormP g caps mine r) (hrl:l.length=r.a.l.length) (hnf:c.nf=caps.length) (hcf:FnR c f cs pc) (hK0:∀w,c.K w→Kp w0 noM w) (hN:RdV w0 Fw.encI r.ns) (hbn:r.ns.l.length≤c.bd) (hbd:c.bd≤1000000) (hout:wd.out.length≤1000000) (hlab:g.ts.l.length≤9223372036854775807) (hk:r.k=5):Ret Tryz.prog 50 #[.pointer (some (bat bM 0)),.agg (yG r).toArray,.slice oL vs.length cL,.pointer (some (bat pc 0))] w (fun v w'=>Wst w0 c TM bM g kd rest H (yH r l cs wd) wd v w'):=by
  have hvl:=hV.len
  have hw:=hF.want
  have hnum:=hF.num
  have hsp:Sp oL vs.length:=(hL w (hH.frz (by exact MEMT))).sp (sz:=1) (by omega) (by omega)
  have e:=pl_5 (r:=r) (l:=l) (cs:=cs) (wd:=wd) hk
  rw [(w_5 (g:=g) (mine:=mine) hk).1] at hw
  rw [(w_5 (g:=g) (mine:=mine) hk).2] at hnum
  (refine ENT (N:=238) Tryz.func50 Tryz.ntmps50 ?_;intro a hA)
  obtain ⟨o5,k5,vs5,hf5,hp5,hr5,hv5⟩:=hcf
  have hl5:=hv5.len
  repeat' (first|(refine QT ?_;clear hA a;intro a hA)|(refine BT ?_;clear hA hH;rintro _ w ⟨bN,rfl,hH⟩ a hA)|refine CT ?_|(refine DT ?_ ?_<;>intro hc<;>try (exfalso;omega))|fail)
  (refine zQ [(0,1),(1,1),(2,1),(3,1),(4,1),(5,1),(6,1),(7,1)] mixed (by decide +kernel) hH ?_;replace hH:=hH.drew)
  have hsp5:Sp o5 cs.length:=(hr5 _ (hH.frz (by exact MEMT))).sp (sz:=1) (by omega) (by omega)
  repeat' (first|(refine XT ?_;apply XE;(first|(apply zC;rfl;exact wG MEMT hp5 rfl));clear hA a;intro a hA)|(refine QT ?_;clear hA a;intro a hA)|refine CT ?_|(refine DT ?_ ?_<;>intro hc<;>try (exfalso;omega))|fail)
  · obtain ⟨u5,hu5,hx5⟩:=hv5.get0 (i:=r.n.toNat) (by omega)
    have hu6:vs5[r.n.toNat*1]?=some u5:=by rw [Nat.mul_one];exact hu5
    (refine zQ [(0,1),(1,1),(2,1),(3,1),(4,1),(5,1),(6,1),(7,1),(8,1),(9,1)] mixed (by decide +kernel) hH ?_;replace hH:=hH.drew)
    repeat' (first|(refine XT ?_;apply XE;(first|(apply zC;rfl;exact wG MEMT hp5 rfl)|(apply zD;rfl;rfl;exact hnum.1;omega;exact hsp5)|(apply zC;rfl;exact yJ MEMT hr5 hu6));clear hA a;intro a hA)|(refine QT ?_;clear hA a;intro a hA)|refine CT ?_|fail)
    exact rt2 (.inl rfl) rfl hA rfl rfl (Wst.same c.le_refl (hH.tail) (RsV_val e hx5 rfl) (by rw [e];exact hS) (by rw [e];rfl) (by rw [e];rfl))
  · have hnl:yI cs r.n.toNat= .nil:=by
      unfold yI
      rw [List.getD_eq_getElem?_getD,List.getElem?_eq_none_iff.2 (by omega)]
      rfl
    rw [hnl] at e
    exact rt2 (.inl rfl) rfl hA rfl rfl (Wst.same c.le_refl (hH.tail) (RsV_stk e rfl) (by rw [e];exact hS) (by rw [e];rfl) (by rw [e];rfl))
theorem Plain10_spec (w0 w:World) (H:List It) (c:Cx) (TM bM:Nat) (g:Grs) (kd:Int) (rest:List Value) (caps:List Int) (mine:Int) (r:Stp) (l:List Vl) (vs:List Value) (oL oO:Option Addr) (cL cO:Nat) (wd:Wd) (sx:Sx) (f:Int) (cs:List Vl) (pc:Nat) (hH:HS w0 noM (cb bM TM (zJ g kd wd.inp oO wd.out.length cO++rest)::own 5 1 oO wd.out.length cO (flat zV wd.out)::frz w0 c.K::all (sx.map obI)::H) w) (hL:∀w,c.K w→Rd w oL vs) (hlc:vs.length≤cL∧cL≤maxLen) (hV:RVs c l vs) (hS:StR c sx wd.st) (hF:FormP g caps mine r) (hrl:l.length=r.a.l.length) (hnf:c.nf=caps.length) (hcf:FnR c f cs pc) (hK0:∀w,c.K w→Kp w0 noM w) (hN:RdV w0 Fw.encI r.ns) (hbn:r.ns.l.length≤c.bd) (hbd:c.bd≤1000000) (hout:wd.out.length≤1000000) (hlab:g.ts.l.length≤9223372036854775807) (hk:r.k=10):Ret Tryz.prog 50 #[.pointer (some (bat bM 0)),.agg (yG r).toArray,.slice oL vs.length cL,.pointer (some (bat pc 0))] w (fun v w'=>Wst w0 c TM bM g kd rest H (yH r l cs wd) wd v w'):=by
  have hvl:=hV.len
  have hw:=hF.want
  have hnum:=hF.num
  have hsp:Sp oL vs.length:=(hL w (hH.frz (by exact MEMT))).sp (sz:=1) (by omega) (by omega)
  have e:=pl_10 (r:=r) (l:=l) (cs:=cs) (wd:=wd) hk
  rw [(w_1 (g:=g) (mine:=mine) (.inr (.inl hk))).1] at hw
  rw [(w_1 (g:=g) (mine:=mine) (.inr (.inl hk))).2] at hnum
  obtain ⟨v0,hv0,hx0⟩:=hV.get0 (i:=0) (by omega)
  (refine ENT (N:=238) Tryz.func50 Tryz.ntmps50 ?_;intro a hA)
  repeat' (first|(refine XT ?_;apply XE;(first|(apply zD;rfl;rfl;decide;omega;exact hsp)|(apply zC;rfl;exact yJ MEMT hL hv0));clear hA a;intro a hA)|(refine QT ?_;clear hA a;intro a hA)|(refine BT ?_;clear hA hH;rintro _ w ⟨bN,rfl,hH⟩ a hA)|refine CT ?_|(refine DT ?_ ?_<;>intro hc<;>try (exfalso;omega))|fail)
  rcases hx0.asTg with ⟨n,y,p,u,hs,rfl,hio,hp,hxu⟩| ⟨hs,hn⟩
  · rw [hs] at e
    repeat' (first|(refine XT ?_;apply XE;(first|(apply zY;rfl)|(apply zL;rfl)|(apply zC;rfl;exact wG MEMT hp rfl));clear hA a;intro a hA)|(refine QT ?_;clear hA a;intro a hA)|refine CT ?_|fail)
    exact rt2 (.inl rfl) rfl hA rfl rfl (Wst.same c.le_refl (hH.tail) (RsV_val e (RV_num hio) rfl) (by rw [e];exact hS) (by rw [e];rfl) (by rw [e];rfl))
  · rw [hs] at e
    repeat' (first|(refine XT ?_;apply XE;(first|(apply yC;rfl;exact hn));clear hA a;intro a hA)|(refine QT ?_;clear hA a;intro a hA)|refine CT ?_|fail)
    exact rt2 (.inl rfl) rfl hA rfl rfl (Wst.same c.le_refl (hH.tail) (RsV_stk e rfl) (by rw [e];exact hS) (by rw [e];rfl) (by rw [e];rfl))
theorem Plain11_spec (w0 w:World) (H:List It) (c:Cx) (TM bM:Nat) (g:Grs) (kd:Int) (rest:List Value) (caps:List Int) (mine:Int) (r:Stp) (l:List Vl) (vs:List Value) (oL oO:Option Addr) (cL cO:Nat) (wd:Wd) (sx:Sx) (f:Int) (cs:List Vl) (pc:Nat) (hH:HS w0 noM (cb bM TM (zJ g kd wd.inp oO wd.out.length cO++rest)::own 5 1 oO wd.out.length cO (flat zV wd.out)::frz w0 c.K::all (sx.map obI)::H) w) (hL:∀w,c.K w→Rd w oL vs) (hlc:vs.length≤cL∧cL≤maxLen) (hV:RVs c l vs) (hS:StR c sx wd.st) (hF:FormP g caps mine r) (hrl:l.length=r.a.l.length) (hnf:c.nf=caps.length) (hcf:FnR c f cs pc) (hK0:∀w,c.K w→Kp w0 noM w) (hN:RdV w0 Fw.encI r.ns) (hbn:r.ns.l.length≤c.bd) (hbd:c.bd≤1000000) (hout:wd.out.length≤1000000) (hlab:g.ts.l.length≤9223372036854775807) (hk:r.k=11):Ret Tryz.prog 50 #[.pointer (some (bat bM 0)),.agg (yG r).toArray,.slice oL vs.length cL,.pointer (some (bat pc 0))] w (fun v w'=>Wst w0 c TM bM g kd rest H (yH r l cs wd) wd v w'):=by
  have hvl:=hV.len
  have hw:=hF.want
  have hnum:=hF.num
  have hsp:Sp oL vs.length:=(hL w (hH.frz (by exact MEMT))).sp (sz:=1) (by omega) (by omega)
  have e:=pl_11 (r:=r) (l:=l) (cs:=cs) (wd:=wd) hk
  rw [(w_1 (g:=g) (mine:=mine) (.inr (.inr hk))).1] at hw
  rw [(w_1 (g:=g) (mine:=mine) (.inr (.inr hk))).2] at hnum
  obtain ⟨v0,hv0,hx0⟩:=hV.get0 (i:=0) (by omega)
  (refine ENT (N:=238) Tryz.func50 Tryz.ntmps50 ?_;intro a hA)
  repeat' (first|(refine XT ?_;apply XE;(first|(apply zD;rfl;rfl;decide;omega;exact hsp)|(apply zC;rfl;exact yJ MEMT hL hv0));clear hA a;intro a hA)|(refine QT ?_;clear hA a;intro a hA)|(refine BT ?_;clear hA hH;rintro _ w ⟨bN,rfl,hH⟩ a hA)|refine CT ?_|(refine DT ?_ ?_<;>intro hc<;>try (exfalso;omega))|fail)
  rcases hx0.asTg with ⟨n,y,p,u,hs,rfl,hio,hp,hxu⟩| ⟨hs,hn⟩
  · rw [hs] at e
    repeat' (first|(refine XT ?_;apply XE;(first|(apply zL;rfl)|(apply zC;rfl;exact wG MEMT hp rfl));clear hA a;intro a hA)|(refine QT ?_;clear hA a;intro a hA)|refine CT ?_|fail)
    exact rt2 (.inl rfl) rfl hA rfl rfl (Wst.same c.le_refl (hH.tail) (RsV_val e hxu rfl) (by rw [e];exact hS) (by rw [e];rfl) (by rw [e];rfl))
  · rw [hs] at e
    repeat' (first|(refine XT ?_;apply XE;(first|(apply yC;rfl;exact hn));clear hA a;intro a hA)|(refine QT ?_;clear hA a;intro a hA)|refine CT ?_|fail)
    exact rt2 (.inl rfl) rfl hA rfl rfl (Wst.same c.le_refl (hH.tail) (RsV_stk e rfl) (by rw [e];exact hS) (by rw [e];rfl) (by rw [e];rfl))
end
section
attribute [local irreducible] Code.wp wpList Calls Ex Op1 sat bat blk cb own Go.Fw.mp Go.Fw.mpO Go.Fw.mpI Go.Fw.mpE Go.Fw.itr HS Rd Ret wkD Hp Cl Cls Exit.then Exit.inBlock Exit.noGoto bodyPost Go.Fw.flat wk2 Go.Fw.all Go.Fw.owns wpOp
attribute [local irreducible] sk mpK sko mvO xI opM Go.Fw.mset Go.Fw.mv opK w63 frz obI RV

theorem Plain8_spec (w0 w:World) (H:List It) (c:Cx) (TM bM:Nat) (g:Grs) (kd:Int) (rest:List Value) (caps:List Int) (mine:Int) (r:Stp) (l:List Vl) (vs:List Value) (oL oO:Option Addr) (cL cO:Nat) (wd:Wd) (sx:Sx) (f:Int) (cs:List Vl) (pc:Nat) (hH:HS w0 noM (cb bM TM (zJ g kd wd.inp oO wd.out.length cO++rest)::own 5 1 oO wd.out.length cO (flat zV wd.out)::frz w0 c.K::all (sx.map obI)::H) w) (hL:∀w,c.K w→Rd w oL vs) (hlc:vs.length≤cL∧cL≤maxLen) (hV:RVs c l vs) (hS:StR c sx wd.st) (hF:FormP g caps mine r) (hrl:l.length=r.a.l.length) (hnf:c.nf=caps.length) (hcf:FnR c f cs pc) (hK0:∀w,c.K w→Kp w0 noM w) (hN:RdV w0 Fw.encI r.ns) (hbn:r.ns.l.length≤c.bd) (hbd:c.bd≤1000000) (hout:wd.out.length≤1000000) (hlab:g.ts.l.length≤9223372036854775807) (hk:r.k=8):Ret Tryz.prog 50 #[.pointer (some (bat bM 0)),.agg (yG r).toArray,.slice oL vs.length cL,.pointer (some (bat pc 0))] w (fun v w'=>Wst w0 c TM bM g kd rest H (yH r l cs wd) wd v w'):=by
  have hvl:=hV.len
  have hw:=hF.want
  have hnum:=hF.num
  have hsp:Sp oL vs.length:=(hL w (hH.frz (by exact MEMT))).sp (sz:=1) (by omega) (by omega)
  have e:=pl_8 (r:=r) (l:=l) (cs:=cs) (wd:=wd) hk
  rw [(w_8 (g:=g) (mine:=mine) hk).1] at hw
  rw [(w_8 (g:=g) (mine:=mine) hk).2] at hnum
  obtain ⟨v0,hv0,hx0⟩:=hV.get0 (i:=0) (by omega)
  (refine ENT (N:=238) Tryz.func50 Tryz.ntmps50 ?_;intro a hA)
  repeat' (first|(refine XT ?_;apply XE;(first|(apply zD;rfl;rfl;decide;omega;exact hsp)|(apply zC;rfl;exact yJ MEMT hL hv0));clear hA a;intro a hA)|(refine QT ?_;clear hA a;intro a hA)|(refine BT ?_;clear hA hH;rintro _ w ⟨bN,rfl,hH⟩ a hA)|refine CT ?_|(refine DT ?_ ?_<;>intro hc<;>try (exfalso;omega))|fail)
  rcases hx0.asRc with ⟨ns,xs,p,on,cn,ol,cl,us,hs,rfl,⟨hq1,hq2,hq3,hq4,hq5,hq6⟩,hp,hrn,hrl2,hus⟩| ⟨hs,hn⟩
  rotate_left
  · rw [hs] at e
    repeat' (first|(refine XT ?_;apply XE;(first|(apply yC;rfl;exact hn));clear hA a;intro a hA)|(refine QT ?_;clear hA a;intro a hA)|refine CT ?_|fail)
    exact rt2 (.inl rfl) rfl hA rfl rfl (Wst.same c.le_refl (hH.tail) (RsV_stk e rfl) (by rw [e];exact hS) (by rw [e];rfl) (by rw [e];rfl))
  rw [hs] at e
  dsimp only at e
  have hul:=hus.len
  repeat' (first|(refine XT ?_;apply XE;(first|(apply zL;rfl));clear hA a;intro a hA)|(refine QT ?_;clear hA a;intro a hA)|refine CT ?_|fail)
  (refine zQ [(0,1),(1,1),(2,1),(3,1),(4,1),(5,1),(6,0),(7,1),(8,1),(9,1),(10,1),(11,1)] mixed (by decide +kernel) hH ?_;replace hH:=hH.drew)
  repeat' (first|(refine XT ?_;apply XE;(first|(apply zC;rfl;exact wG MEMT hp rfl));clear hA a;intro a hA)|(refine QT ?_;clear hA a;intro a hA)|fail)
  have hb:=jV w.drew on cn ns r.n (hrn _ (hH.frz (by exact MEMT))) (by omega)
  (refine yO hA rfl rfl rfl (by decide) (zA rfl rfl rfl (hb)) ?_;clear hA;rintro _ w ⟨rfl,hk2⟩;refine ⟨hH.keep hk2,?_⟩;intro a hA)
  replace hH:=hH.keep hk2
  clear hk2 hb
  have hspU:Sp ol xs.length:=(hrl2 _ (hH.frz (by exact MEMT))).sp (sz:=1) (by omega) (by omega)
  cases hfd:bsB ns r.n with
  | true=>
    rw [if_pos hfd] at e
    have hbi:bsI ns r.n<ns.length:=(dTr hfd).1
    obtain ⟨u,hu,hxu⟩:=hus.get0 (i:=bsI ns r.n) (by omega)
    have hu6:us[bsI ns r.n*1]?=some u:=by rw [Nat.mul_one];exact hu
    rw [hfd] at hA
    repeat' (first|(refine XT ?_;apply XE;(first|(apply zC;rfl;exact wG MEMT hp rfl)|(apply zE;rfl;rfl;omega;exact hspU)|(apply zC;rfl;exact yJ MEMT hrl2 hu6));clear hA a;intro a hA)|(refine QT ?_;clear hA a;intro a hA)|refine CT ?_|fail)
    exact rt2 (.inl rfl) rfl hA rfl rfl (Wst.same c.le_refl (hH.tail) (RsV_val e hxu rfl) (by rw [e];exact hS) (by rw [e];rfl) (by rw [e];rfl))
  | false=>
    rw [if_neg (by rw [hfd];decide)] at e
    rw [hfd] at hA
    repeat' (first|(refine QT ?_;clear hA a;intro a hA)|refine CT ?_|fail)
    exact rt2 (.inl rfl) rfl hA rfl rfl (Wst.same c.le_refl (hH.tail) (RsV_stk e rfl) (by rw [e];exact hS) (by rw [e];rfl) (by rw [e];rfl))
end
end Go.Proofs.YtenlcdokaadobaaGreatDoor
namespace Go.Fw
open Go Go.RowKit
set_option linter.unusedVariables false
def bQ (ops:Array Oper) (π2 ps:List Nat):Pl→Array Bool→Bool
  | .nil,listed=>okL ops π2 listed
  | .q i t,listed=>(Region.ready .any ops listed).contains i && Region.free .any ops listed i && (ps.contains i || late ops π2 listed i) && bQ ops π2 ps t (listed.setIfInBounds i true)
  | .one i t,listed=>decide (Region.ready .any ops listed=[i]) && bQ ops π2 ps t (listed.setIfInBounds i true)
  | .two i j t u,listed=>Nat.beq t.len u.len && decide (Region.ready .any ops listed=[i,j]) && bQ ops π2 ps t (listed.setIfInBounds i true) && bQ ops π2 ps u (listed.setIfInBounds j true)
def rY (P:Program) (ops:Array Oper) (S:World→Prop) (Q:Exit→Act→World→Prop) (π2 ps:List Nat):Pl→Act→World→Prop
  | .nil,a,w=>wk2 P ops Q π2 a w
  | .q i t,a,w=>∃o v,ops[i]?=some o∧YieldsIf P ops (if ps.contains i then fun _=>True else S) o v a∧rY P ops S Q π2 ps t (a.put o.dst v) w
  | .one i t,a,w=>wpOp P ops (NoPanic Q) i (fun a' w'=>S w'∧rY P ops S Q π2 ps t a' w') a w
  | .two i j t u,a,w=>wpOp P ops (NoPanic Q) i (fun a' w'=>S w'∧rY P ops S Q π2 ps t a' w') a w∧wpOp P ops (NoPanic Q) j (fun a' w'=>S w'∧rY P ops S Q π2 ps u a' w') a w
section
variable {P:Program} {ops:Array Oper} {S:World→Prop} {Q:Exit→Act→World→Prop} {π2 ps:List Nat}
theorem pC (hs:Region.noSelect ops=true):∀(t:Pl) (listed:Array Bool) (a:Act) (w:World),
    bQ ops π2 ps t listed=true→S w→rY P ops S Q π2 ps t a w→wpAnyK P .any ops (NoPanic Q) S (fun j=>!π2.contains j) (t.len+π2.length) listed a w
  | .nil,listed,a,w,hok,hS,h=>by
    have:=jM (S:=S) (F:=fun j=>!π2.contains j) π2 listed a w (fun i hi=>by simpa using hi) hok h
    have e:Pl.nil.len+π2.length=π2.length:=Nat.zero_add _
    rw [e]
    exact this
  | .q i t,listed,a,w,hok,hS,h=>by
    simp only [bQ,Bool.and_eq_true] at hok
    obtain ⟨⟨⟨hr,hf⟩,hl⟩,hok'⟩:=hok
    obtain ⟨o,v,hi,hy,hk⟩:=h
    have e:(Pl.q i t).len+π2.length=(t.len+π2.length)+1:=by show t.len+1+_=_;omega
    rw [e]
    have hn:=pC hs t _ _ w hok' hS hk
    cases hp:ps.contains i with
    | true=>
      rw [hp,if_pos rfl] at hy
      exact wpAnyK.firstp hi (Region.noSelect_spec hs) (fun c a w h=>h) _ listed a w (Region.free_spec hi hf) (by simpa using hr) hy hn
    | false=>
      rw [hp] at hy hl
      exact wpAnyK.first hi (Region.noSelect_spec hs) (fun c a w h=>h) _ listed a w (dL (by simpa using hl)) (Region.free_spec hi hf) (by simpa using hr) (by simpa using hy) hS hn
  | .one i t,listed,a,w,hok,hS,h=>by
    simp only [bQ,Bool.and_eq_true,decide_eq_true_eq] at hok
    have e:(Pl.one i t).len+π2.length=(t.len+π2.length)+1:=by show t.len+1+_=_;omega
    rw [e]
    refine ⟨fun h0=>(by rw [hok.1] at h0;cases h0),fun j hj=>?_⟩
    rw [hok.1] at hj
    obtain rfl:j=i:=by simpa using hj
    exact wpOp_mono (fun a' w' ⟨hS',h'⟩=>⟨fun _ _=>hS',pC hs t _ a' w' hok.2 hS' h'⟩) h
  | .two i k t u,listed,a,w,hok,hS,h=>by
    simp only [bQ,Bool.and_eq_true,decide_eq_true_eq] at hok
    obtain ⟨⟨⟨hl,hr⟩,ht⟩,hu⟩:=hok
    have hl:=Nat.eq_of_beq_eq_true hl
    have e:(Pl.two i k t u).len+π2.length=(t.len+π2.length)+1:=by show t.len+1+_=_;omega
    rw [e]
    refine ⟨fun h0=>(by rw [hr] at h0;cases h0),fun j hj=>?_⟩
    rw [hr] at hj
    rcases (by simpa using hj:j=i∨j=k) with rfl|rfl
    · exact wpOp_mono (fun a' w' ⟨hS',h'⟩=>⟨fun _ _=>hS',pC hs t _ a' w' ht hS' h'⟩) h.1
    · exact wpOp_mono (fun a' w' ⟨hS',h'⟩=>⟨fun _ _=>hS',by rw [hl];exact pC hs u _ a' w' hu hS' h'⟩) h.2
end
theorem lN {P:Program} {id:Nat} {ops:List Oper} {Q:Exit→Act→World→Prop} {a:Act} {w0 w:World} {M:Nat→Prop} {H:List It} (t:Pl) (π2 ps:List Nat) (R:Act→World→Prop) (hm:P.follows .mixedOrders=true)
    (hok:(Region.noSelect ops.toArray && Nat.beq (t.len+π2.length) ops.length && bQ ops.toArray π2 ps t (Array.replicate ops.length false))=true) (hH:HS w0 M H w)
    (h:(∀a w,R a w→Q .normal a w)→rY P ops.toArray (HS w0 M H) Q π2 ps t a w.drew) (k:∀a w,R a w→Q .normal a w):(Code.region id ops.toArray true).wp P Q a w:=by
  simp only [Bool.and_eq_true] at hok
  obtain ⟨⟨hs,hl⟩,hok⟩:=hok
  have hl':t.len+π2.length=ops.toArray.size:=by simpa using Nat.eq_of_beq_eq_true hl
  have:=pC (P:=P) (Q:=Q) hs t _ a w.drew hok hH.drew (h k)
  rw [hl'] at this
  refine wp_region_noPanic (wp_region_any hm (wpAnyK.any (S:=HS w0 M H) (F:=fun j=>!π2.contains j) _ _ _ _ ?_))
  simpa using this
section
variable {P:Program} {N:Nat} {l:List (Nat × Value)} {a:Act} {Ds:List Deferred} {w:World} {ops:Array Oper} {S:World→Prop} {Q:Exit→Act→World→Prop} {π2 ps:List Nat} {i j:Nat} {t u:Pl}
theorem mD (h:wk2 P ops Q π2 a w):rY P ops S Q π2 ps .nil a w:=h
theorem mE {o:Oper} {d:Nat} {v:Value} (hA:Sl N l a Ds) (hi:ops[i]?=some o) (hg:gd ops l o.guard=some true) (hd:o.dst=some d) (hdN:d<N) (hp:ps.contains i=true)
    (h:Ex P N l (fun _=>True) o v) (k':∀a',Sl N ((d,v)::l) a' Ds→rY P ops S Q π2 ps t a' w):rY P ops S Q π2 ps (.q i t) a w:=by
  refine ⟨o,v,hi,?_,?_⟩
  · rw [hp,if_pos rfl]
    exact .inl ⟨hA.gd hg,fun w' hS=>h a w' hA.toSl0 hS⟩
  · rw [hd]
    exact k' _ (hA.put hdN v)
theorem fY {o:Oper} {d:Nat} {v:Value} (hA:Sl N l a Ds) (hi:ops[i]?=some o) (hg:gd ops l o.guard=some true) (hd:o.dst=some d) (hdN:d<N) (hp:ps.contains i=false)
    (h:Ex P N l S o v) (k':∀a',Sl N ((d,v)::l) a' Ds→rY P ops S Q π2 ps t a' w):rY P ops S Q π2 ps (.q i t) a w:=by
  refine ⟨o,v,hi,?_,?_⟩
  · rw [hp,if_neg (by decide)]
    exact .inl ⟨hA.gd hg,fun w' hS=>h a w' hA.toSl0 hS⟩
  · rw [hd]
    exact k' _ (hA.put hdN v)
theorem qI {o:Oper} {d:Nat} {R:Value→World→Prop} (hA:Sl N l a Ds) (hi:ops[i]?=some o) (hg:gd ops l o.guard=some true) (hd:o.dst=some d) (hdN:d<N)
    (h:Op1 P N l o w R) (k:∀v w',R v w'→S w'∧∀a',Sl N ((d,v)::l) a' Ds→rY P ops S Q π2 ps t a' w'):rY P ops S Q π2 ps (.one i t) a w:=by
  unfold rY wpOp
  simp only [hi,hA.gd hg,if_true]
  refine .inl (h a hA.toSl0 _ _ fun v w' hR=>?_)
  rw [hd]
  exact ⟨(k v w' hR).1,(k v w' hR).2 _ (hA.put hdN v)⟩
theorem pV {o:Oper} {R:Value→World→Prop} (hA:Sl N l a Ds) (hi:ops[i]?=some o) (hg:gd ops l o.guard=some true) (hd:o.dst=none)
    (h:Op1 P N l o w R) (k:∀v w',R v w'→S w'∧rY P ops S Q π2 ps t a w'):rY P ops S Q π2 ps (.one i t) a w:=by
  unfold rY wpOp
  simp only [hi,hA.gd hg,if_true]
  refine .inl (h a hA.toSl0 _ _ fun v w' hR=>?_)
  rw [hd]
  exact k v w' hR
theorem aX (h1:rY P ops S Q π2 ps (.one i t) a w) (h2:rY P ops S Q π2 ps (.one j u) a w):rY P ops S Q π2 ps (.two i j t u) a w:=⟨h1,h2⟩
end
end Go.Fw
