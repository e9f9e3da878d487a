/-
  An executor for runs on known data: a region that draws its order: one operation more, whichever. Conditions: none.
  An executor for runs on known data: a region that draws its order, whole. Conditions: none.
  An executor for runs on known data: what is to be shown of calls and code; operations with calls; regions. Conditions: none.
  An executor for runs on known data: code, calls, all of it. Conditions: none.
  An executor for runs on known data: it is right: what it tells of a call, the call does. Conditions: none.
  An executor for runs on known data: what it takes out of the program's own tables. Conditions: none.
  A row of the numbers that a function hands out. Conditions: none.
  The law's own check comes to true: by the executor, which is told what the library's row of numbers is. Conditions: none.
  The law's own check comes to true. Conditions: none.
  What the bound of '..UptoSaid' gives. Conditions: none.
-/
import Derived.Test.YtbapejgbjpcadaaGreatDoorRowJoinsMg4
import Derived.Scope
import Derived.LoopN
import Derived.ChangeKeysEq
import Derived.Laws.StructEq
import Derived.Test.YtbapejgbjpcadaaGreatDoorRowJoinsMg1
import Derived.Test.YtbapejgbjpcadaaGreatDoorProg
import Derived.Test.YtbapejgbjpcadaaGreatDoorRows
set_option maxHeartbeats 64000000
set_option maxRecDepth 10000
namespace Go.Xc
open Go Go.RowKit Go.Fw
set_option linter.unusedVariables false
section
open Classical
noncomputable def curF {α:Type} (g:Nat→Nat→Option α) (Wr:Nat→Nat→Prop) (D:Nat→Prop):Nat→Nat→Option α
  |0,x=>g 0 x
  |k+1,x=>if D k∧Wr k x then g (k+1) x else curF g Wr D k x
variable {α:Type} {g:Nat→Nat→Option α} {Wr:Nat→Nat→Prop} {D D':Nat→Prop} {m x:Nat}
theorem cur_low (hs:∀k,k<m→¬Wr k x→g (k+1) x=g k x):∀j,j≤m→(∀k,k<j→Wr k x→D k)→curF g Wr D j x=g j x
  |0,_,_=>rfl
  | j+1,hj,h=>by
    rw [curF]
    by_cases hw:Wr j x
    · rw [if_pos ⟨h j (Nat.lt_succ_self j) hw,hw⟩]
    · rw [if_neg (fun c=>hw c.2),cur_low hs j (by omega) (fun k hk=>h k (by omega)),hs j (by omega) hw]
theorem cur_high {j:Nat}:∀m,j≤m→(∀k,j≤k→k<m→Wr k x→¬D k)→curF g Wr D m x=curF g Wr D j x
  |0,hj,_=>by rw [show j=0 by omega]
  | m +1,hj,h=>by
    by_cases hjm:j=m+1
    · rw [hjm]
    · rw [curF,if_neg (fun c=>h m (by omega) (Nat.lt_succ_self m) c.2 c.1)]
      exact cur_high m (by omega) (fun k h1 h2=>h k h1 (by omega))
theorem cur_at {j:Nat} (hs:∀k,k<m→¬Wr k x→g (k+1) x=g k x) (hj:j≤m) (h1:∀k,k<j→Wr k x→D k) (h2:∀k,j≤k→k<m→Wr k x→¬D k):curF g Wr D m x=g j x:=by
  rw [cur_high m hj h2,cur_low hs j hj h1]
theorem cur_same:∀m,(∀k,k<m→Wr k x→(D k↔D' k))→curF g Wr D m x=curF g Wr D' m x
  |0,_=>rfl
  | m +1,h=>by
    rw [curF,curF,cur_same m (fun k hk=>h k (by omega))]
    by_cases hw:Wr m x
    · have:=h m (Nat.lt_succ_self m) hw
      by_cases hd:D m
      · rw [if_pos ⟨hd,hw⟩,if_pos ⟨this.1 hd,hw⟩]
      · rw [if_neg (fun c=>hd c.1),if_neg (fun c=>hd (this.2 c.1))]
    · rw [if_neg (fun c=>hw c.2),if_neg (fun c=>hw c.2)]
end
theorem sat_same {e:En} {w w':World} {i:Nat} (hw:w'.heap[e.ρ i]?=w.heap[e.ρ i]?) {B:LB} (h:B.sat e w i):B.sat e w' i:=by
  cases B<;>simp only [LB.sat] at*<;>rw [hw]<;>exact h
section
variable (S:Nat→Sn) (Q:Nat→R1)
def Wr (k x:Nat):Prop:=(x<(S k).n∧bt (Q k).wm x)∨((S k).n≤x∧x<(S (k+1)).n)
def Fp (k x:Nat):Prop:=(x<(S k).n∧bt (Q k).fp x)∨((S k).n≤x∧x<(S (k+1)).n)
def insO (p:LV × LV):Option LB→Option LB
  |some (.M [] _)=>some (.N [p])
  |some (.N es)=>some (.N (insN p.1 p.2 es))
  |_=>none
open Classical in
noncomputable def curB (act:Nat→Option (LV × LV)) (D:Nat→Prop):Nat→Nat→Option LB
  |0,x=>(S 0).h.get x
  |k+1,x=>if D k∧Wr S Q k x then (match act k with|some p=>insO p (curB act D k x)|none=>(S (k+1)).h.get x) else curB act D k x
noncomputable def curS (ops:Array Oper) (D:Nat→Prop) (m s:Nat):Option LV:=curF (fun k s=>(S k).sl.get s) (fun k s=>∃o,ops[k]?=some o∧o.dst=some s) D m s
def Dom (F:Nat) (D:Nat→Prop) (x:Nat):Prop:=(x<(S 0).n∧bt F x)∨∃i,D i∧(S i).n≤x∧x<(S (i+1)).n
structure InsAt (P:Program) (N:Nat) (ops:Array Oper) (act:Nat→Option (LV × LV)) (k:Nat) (o:Oper) (b:Nat) (B B':LB) (kv xv:LV):Prop where
  op:ops[k]?=some o
  want:wanted ops (S k).sl o.guard=some true
  act:act k=some (kv,xv)
  get:(S k).h.get b=some B
  ins:insB B kv xv=some B'
  nh:(S (k+1)).h=(S k).h.set 21 b (some B')
  nn:(S (k+1)).n=(S k).n
  q:Q k=⟨none,(S (k+1)).h,(S k).n,bitM b,bitM b⟩
  put:putS N (S k).sl o.dst none=some (S (k+1)).sl
  kb:kv.bd (S k).n
  xb:xv.bd (S k).n
  run:∀n' H B1 B2,(S k).n≤n'→HB n' H→H.get b=some B1→insB B1 kv xv=some B2→OpU P N (S k).sl H n' o ⟨none,H.set 21 b (some B2),n',bitM b,bitM b⟩
structure RgOk (P:Program) (N:Nat) (ops:Array Oper) (act:Nat→Option (LV × LV)) (m F M:Nat):Prop where
  N4:N≤4096
  size:ops.size=m
  op:∀k,k<m→∃o,ops[k]?=some o∧((wanted ops (S k).sl o.guard=some true∧OpU P N (S k).sl (S k).h (S k).n o (Q k)∧putS N (S k).sl o.dst (Q k).v=some (S (k+1)).sl)∨
    (wanted ops (S k).sl o.guard=some false∧Q k=⟨some (.T []),(S k).h,(S k).n,0,0⟩∧putS N (S k).sl o.dst (some (.T []))=some (S (k+1)).sl))
  nxh:∀k,k<m→(S (k+1)).h=(Q k).h
  nxn:∀k,k<m→(S (k+1)).n=(Q k).n
  hb:∀k,k≤m→HB (S k).n (S k).h
  sw:∀k,k≤m→SW N (S k).n (S k).sl
  dd:∀k,k<m→Dd (S k).h (S k).n (Q k).fp (Q k).wm (S (k+1)).h (S (k+1)).n
  cl:∀j k x,j<k→k<m→¬(isI ops j=true∧isI ops k=true)→(Fp S Q k x∧Wr S Q j x∨Wr S Q k x∧Fp S Q j x)→Nat.testBit (Bk ops k) j=true
  fp:∀k,k<m→∀x,bt (Q k).fp x→bt F x
  wm:∀k,k<m→∀x,bt (Q k).wm x→bt M x
  txt:RegS ops
  ina:∀k,k<m→isI ops k=false→act k=none
  ins:∀k,k<m→isI ops k=true→(∀x,¬Fp S Q k x)∨∃o b B B' kv xv,InsAt S Q P N ops act k o b B B' kv xv
def ExtD (D:Nat→Prop) (δ e:En):Prop:=∀i,D i→∀x,(S i).n≤x→x<(S (i+1)).n→e.ρ x=δ.ρ x∧e.κ x=δ.κ x
structure Sx (N:Nat) (ops:Array Oper) (act:Nat→Option (LV × LV)) (m F M:Nat) (D:Nat→Prop) (w0:World) (e f:En) (a:Act) (w:World):Prop where
  sz:a.tmps.size=N
  sl:∀s v,curS S ops D m s=some v→a.tmps[s]?=some (v.val f)
  sat:∀x B,Dom S F D x→curB S Q act D m x=some B→B.sat f w x
  inj:∀x y B C,Dom S F D x→Dom S F D y→curB S Q act D m x=some B→curB S Q act D m y=some C→f.ρ x=f.ρ y→x=y
  kp:Kp w0 (fun b=>∃i,i<(S 0).n∧bt M i∧((S 0).h.get i).isSome∧e.ρ i=b) w
  nw:∀x,(S 0).n≤x→Dom S F D x→(curB S Q act D m x).isSome→w0.heap.size≤f.ρ x∨∃j,j<(S 0).n∧bt M j∧((S 0).h.get j).isSome∧e.ρ j=f.ρ x
def St (N:Nat) (ops:Array Oper) (act:Nat→Option (LV × LV)) (m F M:Nat) (D:Nat→Prop) (w0:World) (a0:Act) (δ:En) (a:Act) (w:World):Prop:=
  ∀e,SlT N e (S 0).sl a0→GdF e (S 0).n F (S 0).h w0→∀f,Ag (S 0).n e f→ExtD S D δ f→Sx S Q N ops act m F M D w0 e f a w
end
section
variable {S:Nat→Sn} {Q:Nat→R1} {P:Program} {N:Nat} {ops:Array Oper} {act:Nat→Option (LV × LV)} {m F M:Nat}
theorem RgOk.mono (R:RgOk S Q P N ops act m F M):∀j i,i≤j→j≤m→(S i).n≤(S j).n
  |0,i,h,_=>by rw [show i=0 by omega];exact Nat.le_refl _
  | j+1,i,h,hj=>by
    by_cases hi:i=j+1
    · rw [hi];exact Nat.le_refl _
    · exact Nat.le_trans (R.mono j i (by omega) (by omega)) (R.dd j (by omega)).nn
theorem RgOk.where_ (R:RgOk S Q P N ops act m F M) {x:Nat} (h0:(S 0).n≤x):∀j,j≤m→x<(S j).n→∃i,i<j∧(S i).n≤x∧x<(S (i+1)).n
  |0,_,h=>by omega
  | j +1,hj,h=>by
    by_cases hx:x<(S j).n
    · obtain ⟨i,h1,h2⟩:=R.where_ h0 j (by omega) hx
      exact ⟨i,by omega,h2⟩
    · exact ⟨j,by omega,by omega,h⟩
theorem RgOk.some_ (R:RgOk S Q P N ops act m F M) {x:Nat} (h0:x<(S 0).n):∀j,j≤m→((S j).h.get x).isSome→((S 0).h.get x).isSome
  |0,_,h=>h
  | j+1,hj,h=>by
    obtain ⟨B,hB⟩:=Option.isSome_iff_exists.1 h
    obtain ⟨B0,hB0⟩:=(R.dd j (by omega)).some (Nat.lt_of_lt_of_le h0 (R.mono j 0 (Nat.zero_le j) (by omega))) hB
    exact R.some_ h0 j (by omega) (by rw [hB0];rfl)
theorem RgOk.wf (R:RgOk S Q P N ops act m F M) {k x:Nat} (hk:k<m) (h:Wr S Q k x):Fp S Q k x:=h.imp (fun h=>⟨h.1,(R.dd k hk).sub x h.1 h.2⟩) id
theorem RgOk.hs (R:RgOk S Q P N ops act m F M) {k x:Nat} (hk:k<m) (h:¬Wr S Q k x):(S (k+1)).h.get x=(S k).h.get x:=by
  by_cases hx:x<(S k).n
  · exact (R.dd k hk).sm x hx fun hb=>h (.inl ⟨hx,hb⟩)
  · have hx2:¬x<(S (k+1)).n:=fun hl=>h (.inr ⟨by omega,hl⟩)
    have none:∀j,j≤m→¬x<(S j).n→(S j).h.get x=none:=fun j hj hn=>by
      cases hg:(S j).h.get x with
      |none=>rfl
      |some B=>exact absurd ((R.hb j hj).get x B hg).1 hn
    rw [none k (by omega) hx,none (k+1) (by omega) hx2]
theorem RgOk.ps (R:RgOk S Q P N ops act m F M) {k:Nat} (hk:k<m):∃o v,ops[k]?=some o∧putS N (S k).sl o.dst v=some (S (k+1)).sl:=by
  obtain ⟨o,ho,h⟩:=R.op k hk
  rcases h with ⟨_,_,h⟩| ⟨_,_,h⟩
  · exact ⟨o,_,ho,h⟩
  · exact ⟨o,_,ho,h⟩
theorem putS_get {N d s:Nat} {sl sl':Tr LV} {v:Option LV} (hN:N≤4096) (h:putS N sl (some d) v=some sl'):sl'.get s=if s=d then v else sl.get s:=by
  unfold putS at h
  obtain ⟨h1,h2⟩:=ck_some h
  rw [blt_eq] at h1
  have h1:=dTr h1
  cases h2
  exact Tr.get_put sl s v (by unfold top;omega)
theorem RgOk.hsl (R:RgOk S Q P N ops act m F M) {k s:Nat} (hk:k<m) (h:¬∃o,ops[k]?=some o∧o.dst=some s):(S (k+1)).sl.get s=(S k).sl.get s:=by
  obtain ⟨o,v,ho,hp⟩:=R.ps hk
  cases hd:o.dst with
  |none=>rw [hd] at hp;rw [←Option.some.inj hp]
  | some d=>
    rw [hd] at hp
    rw [putS_get R.N4 hp,if_neg]
    rintro rfl
    exact h ⟨o,ho,hd⟩
theorem apart3 {p o:Oper} (h:p.apart ops o=true):(∀d,p.dst=some d→d ∉ o.looksAt ops)∧(∀d,p.dst=some d→o.dst≠some d)∧(∀d,o.dst=some d→d ∉ p.looksAt ops):=Oper.apart_spec h
structure NxS (S:Nat→Sn) (ops:Array Oper) (m:Nat) (D:Nat→Prop) (j:Nat) (o:Oper):Prop where
  look:∀s,s∈o.looksAt ops→curS S ops D m s=(S j).sl.get s
  dst:∀s,o.dst=some s→curS S ops (fun i=>D i∨i=j) m s=(S (j+1)).sl.get s
  dsto:∀s,o.dst≠some s→curS S ops (fun i=>D i∨i=j) m s=curS S ops D m s
structure NxB (S:Nat→Sn) (Q:Nat→R1) (act:Nat→Option (LV × LV)) (m F:Nat) (D:Nat→Prop) (j:Nat) (H H':Tr LB):Prop where
  dd:Dd H (S j).n (Q j).fp (Q j).wm H' (S (j+1)).n
  dom:∀x,x<(S j).n→bt (Q j).fp x→Dom S F D x
  blk:∀x,x<(S j).n→bt (Q j).fp x→curB S Q act D m x=H.get x
  blk2:∀x B,Fp S Q j x→curB S Q act (fun i=>D i∨i=j) m x=some B→∃B0,H'.get x=some B0∧∀e w,B0.sat e w x→B.sat e w x
  oth:∀x,¬Fp S Q j x→curB S Q act (fun i=>D i∨i=j) m x=curB S Q act D m x
  old:∀x,x<(S 0).n→bt (Q j).wm x→(H.get x).isSome→((S 0).h.get x).isSome
theorem RgOk.nxs (R:RgOk S Q P N ops act m F M) {D:Nat→Prop} {j:Nat} {o:Oper} (hj:j<m) (ho:ops[j]?=some o) (hDj:¬D j) (hcl:∀k,D k→∀i,Nat.testBit (Bk ops k) i=true→D i) (hBj:∀i,Nat.testBit (Bk ops j) i=true→D i):NxS S ops m D j o:=by
  have lowS:∀s,s∈o.looksAt ops→∀k,k<j→(∃p,ops[k]?=some p∧p.dst=some s)→D k:=by
    rintro s hs k hk ⟨p,hp,hd⟩
    rcases R.txt.ord k j p o hk hp ho with h| ⟨h,_⟩
    · exact absurd hs ((apart3 h).1 s hd)
    · exact hBj k h
  have one:∀s,o.dst=some s→∀k,k<m→(∃p,ops[k]?=some p∧p.dst=some s)→k=j:=by
    rintro s hs k hk ⟨p,hp,hd⟩
    rcases Nat.lt_trichotomy k j with h|h|h
    · rcases R.txt.ord k j p o h hp ho with h1| ⟨_,h1⟩
      · exact absurd hs ((apart3 h1).2.1 s hd)
      · exact absurd hs (h1 s hd)
    · exact h
    · rcases R.txt.ord j k o p h ho hp with h1| ⟨_,h1⟩
      · exact absurd hd ((apart3 h1).2.1 s hs)
      · exact absurd hd (h1 s hs)
  refine ⟨fun s hs=>?_,fun s hs=>?_,fun s hs=>?_⟩
  · refine cur_at (fun k hk h=>R.hsl hk h) (Nat.le_of_lt hj) (lowS s hs) fun k hk hkm ⟨p,hp,hd⟩ hDk=>?_
    rcases Nat.lt_or_eq_of_le hk with h|h
    · rcases R.txt.ord j k o p h ho hp with h1| ⟨h1,_⟩
      · exact (apart3 h1).2.2 s hd hs
      · exact hDj (hcl k hDk j h1)
    · rw [←h] at hDk;exact hDj hDk
  · refine cur_at (fun k hk h=>R.hsl hk h) hj (fun k hk hw=>.inr (one s hs k (by omega) hw)) fun k hk hkm hw hDk=>?_
    have:=one s hs k hkm hw
    omega
  · refine cur_same m fun k hk hw=>⟨fun h=>?_,.inl⟩
    rcases h with h|h
    · exact h
    · subst h
      obtain ⟨p,hp,hd⟩:=hw
      rw [ho] at hp
      cases hp
      exact absurd hd hs
theorem insO_of {B B':LB} {kv xv:LV} (h:insB B kv xv=some B'):insO (kv,xv) (some B)=some B':=by
  unfold insB at h
  split at h
  · cases h;rfl
  · split at h
    · cases h;rfl
    · cases h
  · cases h
theorem RgOk.tx (R:RgOk S Q P N ops act m F M) {k x:Nat} {p:LV × LV} (hk:k<m) (hp:act k=some p) (hw:Wr S Q k x):(S (k+1)).h.get x=insO p ((S k).h.get x):=by
  cases hI:isI ops k with
  |false=>rw [R.ina k hk hI] at hp;cases hp
  | true=>
    rcases R.ins k hk hI with h| ⟨o,b,B,B',kv,xv,h⟩
    · exact absurd (R.wf hk hw) (h x)
    · rw [h.act] at hp
      cases hp
      have hxb:x=b:=by
        rcases hw with ⟨_,h1⟩| ⟨h1,h2⟩
        · rw [h.q] at h1;exact (bt_bitM b x).1 h1
        · rw [h.nn] at h2;omega
      subst hxb
      have ht:=(R.hb k (Nat.le_of_lt hk)).get x B h.get
      rw [h.nh,Tr.get_put _ _ _ (Nat.lt_of_lt_of_le ht.1 (R.hb k (Nat.le_of_lt hk)).top),if_pos rfl,h.get,insO_of h.ins]
theorem RgOk.low (R:RgOk S Q P N ops act m F M) {D:Nat→Prop} {x:Nat}:∀j,j≤m→(∀k,k<j→Wr S Q k x→D k)→curB S Q act D j x=(S j).h.get x
  |0,_,_=>rfl
  | j + 1,hj,h=>by
    rw [curB]
    by_cases hw:Wr S Q j x
    · rw [if_pos ⟨h j (Nat.lt_succ_self j) hw,hw⟩]
      cases ha:act j with
      |none=>rfl
      | some p=>
        simp only
        rw [R.low j (by omega) (fun k hk=>h k (by omega)),R.tx (by omega) ha hw]
    · rw [if_neg (fun c=>hw c.2),R.low j (by omega) (fun k hk=>h k (by omega)),R.hs (by omega) hw]
theorem high {D:Nat→Prop} {x j:Nat}:∀m,j≤m→(∀k,j≤k→k<m→Wr S Q k x→¬D k)→curB S Q act D m x=curB S Q act D j x
  |0,hj,_=>by rw [show j=0 by omega]
  | m +1,hj,h=>by
    by_cases hjm:j=m+1
    · rw [hjm]
    · rw [curB,if_neg (fun c=>h m (by omega) (Nat.lt_succ_self m) c.2 c.1)]
      exact high m (by omega) (fun k h1 h2=>h k h1 (by omega))
theorem same {D D':Nat→Prop} {x:Nat}:∀m,(∀k,k<m→Wr S Q k x→(D k↔D' k))→curB S Q act D m x=curB S Q act D' m x
  |0,_=>rfl
  | m +1,h=>by
    rw [curB,curB,same m (fun k hk=>h k (by omega))]
    by_cases hw:Wr S Q m x
    · have:=h m (Nat.lt_succ_self m) hw
      by_cases hd:D m
      · rw [if_pos ⟨hd,hw⟩,if_pos ⟨this.1 hd,hw⟩]
      · rw [if_neg (fun c=>hd c.1),if_neg (fun c=>hd (this.2 c.1))]
    · rw [if_neg (fun c=>hw c.2),if_neg (fun c=>hw c.2)]
theorem RgOk.at_ (R:RgOk S Q P N ops act m F M) {D:Nat→Prop} {x j:Nat} (hj:j≤m) (h1:∀k,k<j→Wr S Q k x→D k) (h2:∀k,j≤k→k<m→Wr S Q k x→¬D k):curB S Q act D m x=(S j).h.get x:=by
  rw [high m hj h2,R.low j hj h1]
theorem RgOk.nxb (R:RgOk S Q P N ops act m F M) {D:Nat→Prop} {j:Nat} (hj:j<m) (hDj:¬D j) (hcl:∀k,D k→∀i,Nat.testBit (Bk ops k) i=true→D i) (hBj:∀i,Nat.testBit (Bk ops j) i=true→D i) (hno:∀x,Fp S Q j x→isI ops j=false):NxB S Q act m F D j (S j).h (S (j+1)).h:=by
  have lowB:∀x,Fp S Q j x→∀k,k<j→Wr S Q k x→D k:=fun x hx k hk hw=>hBj k (R.cl k j x hk hj (fun c=>by rw [hno x hx] at c;cases c.2) (.inl ⟨hx,hw⟩))
  have highB:∀x,Fp S Q j x→∀k,j<k→k<m→Wr S Q k x→¬D k:=fun x hx k hk hkm hw hd=>hDj (hcl k hd j (R.cl j k x hk hkm (fun c=>by rw [hno x hx] at c;cases c.1) (.inr ⟨hw,hx⟩)))
  refine ⟨R.dd j hj,fun x hxn hx=>?_,fun x hxn hx=>?_,fun x B hx hc=>⟨B,?_,fun e w h=>h⟩,fun x hx=>?_,fun x h0 hw hs=>R.some_ h0 j (Nat.le_of_lt hj) hs⟩
  · by_cases h0:x<(S 0).n
    · exact .inl ⟨h0,R.fp j hj x hx⟩
    · obtain ⟨i,h1,h2,h3⟩:=R.where_ (by omega) j (Nat.le_of_lt hj) hxn
      exact .inr ⟨i,lowB x (.inl ⟨hxn,hx⟩) i h1 (.inr ⟨h2,h3⟩),h2,h3⟩
  · refine R.at_ (Nat.le_of_lt hj) (lowB x (.inl ⟨hxn,hx⟩)) fun k hk hkm hw hDk=>?_
    rcases Nat.lt_or_eq_of_le hk with h|h
    · exact highB x (.inl ⟨hxn,hx⟩) k h hkm hw hDk
    · rw [←h] at hDk;exact hDj hDk
  · rw [←hc]
    refine (R.at_ (Nat.succ_le_of_lt hj) (fun k hk hw=>?_) fun k hk hkm hw hDk=>?_).symm
    · rcases Nat.lt_or_eq_of_le (Nat.le_of_lt_succ hk) with h|h
      · exact .inl (lowB x hx k h hw)
      · exact .inr h
    · rcases hDk with h|h
      · exact highB x hx k (by omega) hkm hw h
      · omega
  · refine same m fun k hk hw=>⟨fun h=>?_,.inl⟩
    rcases h with h|h
    · exact h
    · subst h;exact absurd (R.wf hj hw) hx
def dlt (S:Nat→Sn) (j:Nat) (δ δ2:En):En:=⟨fun x=>if (S j).n≤x∧x<(S (j+1)).n then δ2.ρ x else δ.ρ x,fun x=>if (S j).n≤x∧x<(S (j+1)).n then δ2.κ x else δ.κ x⟩
theorem RgOk.parts (R:RgOk S Q P N ops act m F M) {D:Nat→Prop} {j:Nat} (hj:j<m) (hDj:¬D j) (hDm:∀k,D k→k<m) {δ δ2 f:En} (hE:ExtD S (fun i=>D i∨i=j) (dlt S j δ δ2) f):ExtD S D δ f∧Ag (S (j+1)).n (f.ext (S j).n δ2) f:=by
  refine ⟨?_,fun i hi=>?_,fun i hi=>?_⟩
  · intro i hi x h1 h2
    obtain ⟨h3,h4⟩:=hE i (.inl hi) x h1 h2
    have hne:i≠j:=fun c=>hDj (c▸hi)
    have hout:¬((S j).n≤x∧x<(S (j+1)).n):=by
      rintro ⟨q1,q2⟩
      rcases Nat.lt_or_gt_of_ne hne with h5|h5
      · have:=R.mono j (i+1) h5 (Nat.le_of_lt hj)
        omega
      · have:=R.mono i (j+1) h5 (Nat.le_of_lt (hDm i hi))
        omega
    dsimp only [dlt] at h3 h4
    rw [if_neg hout] at h3 h4
    exact ⟨h3,h4⟩
  · by_cases h1:i<(S j).n
    · simp only [En.ext,if_pos h1]
    · have:=(hE j (.inr rfl) i (by omega) hi).1
      dsimp only [dlt] at this
      rw [if_pos (show (S j).n≤i∧i<(S (j+1)).n from ⟨by omega,hi⟩)] at this
      simp only [En.ext,if_neg h1,this]
  · by_cases h1:i<(S j).n
    · simp only [En.ext,if_pos h1]
    · have:=(hE j (.inr rfl) i (by omega) hi).2
      dsimp only [dlt] at this
      rw [if_pos (show (S j).n≤i∧i<(S (j+1)).n from ⟨by omega,hi⟩)] at this
      simp only [En.ext,if_neg h1,this]
theorem RgOk.put (R:RgOk S Q P N ops act m F M) {D:Nat→Prop} {j:Nat} {o:Oper} {H H':Tr LB} (hj:j<m) (hDj:¬D j) (hDm:∀k,D k→k<m) (hx:NxS S ops m D j o) (hy:NxB S Q act m F D j H H') {w0:World} {a0:Act} {δ δ2:En} {a:Act} {w w':World} {u:Value} (h:St S Q N ops act m F M D w0 a0 δ a w)
    (hp:∃v,putS N (S j).sl o.dst v=some (S (j+1)).sl∧v=(Q j).v)
    (hu:∀e f,SlT N e (S 0).sl a0→GdF e (S 0).n F (S 0).h w0→Ag (S 0).n e f→ExtD S D δ f→Ag (S (j+1)).n (f.ext (S j).n δ2) f→Tk H (S j).n (Q j).fp (Q j).wm H' (S (j+1)).n f w f w'∧∀x,(Q j).v=some x→u=x.val f) :
    St S Q N ops act m F M (fun i=>D i∨i=j) w0 a0 (dlt S j δ δ2) (a.put o.dst u) w':=by
  intro e hA hg f hf hE
  obtain ⟨hE1,hag⟩:=R.parts hj hDj hDm hE
  have hX:=h e hA hg f hf hE1
  obtain ⟨t,hv⟩:=hu e f hA hg hf hE1 hag
  have hdd:=hy.dd
  have old:∀x,x<(S j).n→bt (Q j).fp x→Dom S F D x∧curB S Q act D m x=H.get x:=fun x h1 h2=>⟨hy.dom x h1 h2,hy.blk x h1 h2⟩
  have sub:∀x,Dom S F (fun i=>D i∨i=j) x→¬Fp S Q j x→Dom S F D x:=by
    rintro x (hd| ⟨i,hi|hi,h1,h2⟩) hn
    · exact .inl hd
    · exact .inr ⟨i,hi,h1,h2⟩
    · subst hi;exact absurd (.inr ⟨h1,h2⟩) hn
  have gone:∀x B,Dom S F D x→¬Fp S Q j x→curB S Q act D m x=some B→w'.heap[f.ρ x]?=w.heap[f.ρ x]?∧f.ρ x<w.heap.size:=by
    intro x B hd hn hc
    have hs:=hX.sat x B hd hc
    refine ⟨t.kp.block _ (LB.sat_lt hs) ?_,LB.sat_lt hs⟩
    rintro ⟨i,h1,h2,h3,h4⟩
    obtain ⟨C,hC⟩:=Option.isSome_iff_exists.1 h3
    obtain ⟨hdi,hci⟩:=old i h1 (hdd.sub i h1 h2)
    rw [←hci] at hC
    obtain rfl:=hX.inj i x C B hdi hd hC hc h4
    exact hn (.inl ⟨h1,hdd.sub i h1 h2⟩)
  have mix:∀x y B C,Dom S F D y→Fp S Q j x→¬Fp S Q j y→H'.get x=some B→curB S Q act D m y=some C→f.ρ x=f.ρ y→x=y:=by
    intro x y B C hdy hx1 hy1 hg1 hc he
    obtain ⟨_,hlt⟩:=gone y C hdy hy1 hc
    rcases hx1 with ⟨h1,h2⟩| ⟨h1,h2⟩
    · obtain ⟨B0,hB0⟩:=hdd.some h1 hg1
      obtain ⟨hdx,hcx⟩:=old x h1 h2
      rw [←hcx] at hB0
      exact hX.inj x y B0 C hdx hdy hB0 hc he
    · rcases t.nw x h1 (by rw [hg1];rfl) with h3| ⟨i,i1,i2,i3,i4⟩
      · omega
      · obtain ⟨D0,hD0⟩:=Option.isSome_iff_exists.1 i3
        obtain ⟨hdi,hci⟩:=old i i1 (hdd.sub i i1 i2)
        rw [←hci] at hD0
        obtain rfl:=hX.inj i y D0 C hdi hdy hD0 hc (i4.trans he)
        exact absurd (.inl ⟨i1,hdd.sub i i1 i2⟩) hy1
  have back:∀b,(∃i,i<(S j).n∧bt (Q j).wm i∧(H.get i).isSome∧f.ρ i=b)→(w0.heap.size≤b∨∃i,i<(S 0).n∧bt M i∧((S 0).h.get i).isSome∧e.ρ i=b):=by
    rintro b ⟨i,i1,i2,i3,i4⟩
    by_cases h0:i<(S 0).n
    · exact .inr ⟨i,h0,R.wm j hj i i2,hy.old i h0 i2 i3,by rw [←hf.ρ i h0];exact i4⟩
    · obtain ⟨hdi,hci⟩:=old i i1 (hdd.sub i i1 i2)
      rw [←i4]
      exact hX.nw i (by omega) hdi (by rw [hci];exact i3)
  obtain ⟨v,hp1,hp2⟩:=hp
  refine ⟨by cases o.dst<;>simp [Act.put,hX.sz],fun s v' hs=>?_,fun x B hd hc=>?_,fun x y B C hdx hdy hcx hcy he=>?_,⟨t.kp.os.trans hX.kp.os,t.kp.tape.trans hX.kp.tape,t.kp.output.trans hX.kp.output,Nat.le_trans hX.kp.size t.kp.size,fun c hc hM=>?_⟩,fun x h0 hd hs=>?_⟩
  · cases hds:o.dst with
    | none=>
      rw [hx.dsto s (by rw [hds];exact fun c=>by cases c)] at hs
      exact hX.sl s v' hs
    | some d=>
      rw [hds] at hp1
      by_cases hsd:s=d
      · subst hsd
        rw [hx.dst s hds,putS_get R.N4 hp1,if_pos rfl,hp2] at hs
        have hb:=(R.sw (j+1) hj).bd s v' (by rw [putS_get R.N4 hp1,if_pos rfl,hp2];exact hs)
        have hlt:=(R.sw (j+1) hj).lt s v' (by rw [putS_get R.N4 hp1,if_pos rfl,hp2];exact hs)
        rw [hv v' hs]
        simp [Act.put,hX.sz,hlt]
      · rw [hx.dsto s (by rw [hds];exact fun c=>hsd (Option.some.inj c).symm)] at hs
        simp only [Act.put]
        rw [Array.getElem?_setIfInBounds_ne (fun c=>hsd c.symm)]
        exact hX.sl s v' hs
  · by_cases h1:Fp S Q j x
    · obtain ⟨B0,hB0,hk⟩:=hy.blk2 x B h1 hc
      exact hk _ _ (t.gd.sat x B0 h1 hB0)
    · rw [hy.oth x h1] at hc
      have hd1:=sub x hd h1
      exact sat_same (gone x B hd1 h1 hc).1 (hX.sat x B hd1 hc)
  · by_cases h1:Fp S Q j x<;>by_cases h2:Fp S Q j y
    · obtain ⟨B0,hB0,_⟩:=hy.blk2 x B h1 hcx
      obtain ⟨C0,hC0,_⟩:=hy.blk2 y C h2 hcy
      exact t.gd.inj x y B0 C0 h1 h2 hB0 hC0 he
    · obtain ⟨B0,hB0,_⟩:=hy.blk2 x B h1 hcx
      rw [hy.oth y h2] at hcy
      exact mix x y B0 C (sub y hdy h2) h1 h2 hB0 hcy he
    · rw [hy.oth x h1] at hcx
      obtain ⟨C0,hC0,_⟩:=hy.blk2 y C h2 hcy
      exact (mix y x C0 B (sub x hdx h1) h2 h1 hC0 hcx he.symm).symm
    · rw [hy.oth x h1] at hcx
      rw [hy.oth y h2] at hcy
      exact hX.inj x y B C (sub x hdx h1) (sub y hdy h2) hcx hcy he
  · rw [t.kp.block c (Nat.lt_of_lt_of_le hc hX.kp.size) (fun hb=>?_),hX.kp.block c hc hM]
    rcases back c hb with h1|h1
    · omega
    · exact hM h1
  · by_cases h1:Fp S Q j x
    · obtain ⟨B,hB⟩:=Option.isSome_iff_exists.1 hs
      obtain ⟨B0,hB0,_⟩:=hy.blk2 x B h1 hB
      rcases h1 with ⟨q1,q2⟩| ⟨q1,q2⟩
      · obtain ⟨B1,hB1⟩:=hdd.some q1 hB0
        obtain ⟨hdx,hcx⟩:=old x q1 q2
        exact hX.nw x h0 hdx (by rw [hcx,hB1];rfl)
      · rcases t.nw x q1 (by rw [hB0];rfl) with h3|h3
        · exact .inl (Nat.le_trans hX.kp.size h3)
        · exact back _ h3
    · rw [hy.oth x h1] at hs
      exact hX.nw x h0 (sub x hd h1) hs
def Mp (B:LB) (es:List (LV × LV)):Prop:=(∃c,B= .M [] c∧es=[])∨B= .N es
theorem Mp.uniq {B:LB} {x y:List (LV × LV)} (h1:Mp B x) (h2:Mp B y):x=y:=by
  rcases h1 with ⟨c,rfl,rfl⟩|rfl<;>rcases h2 with ⟨d,h,rfl⟩|h<;>first|rfl|(cases h;done)|(cases h;rfl)
theorem Mp.ins {B:LB} {es:List (LV × LV)} (h:Mp B es) (p:LV × LV):∃es',insO p (some B)=some (.N es')∧es'.Perm (p::es):=by
  rcases h with ⟨c,rfl,rfl⟩|rfl
  · exact ⟨_,rfl,List.Perm.refl _⟩
  · exact ⟨_,rfl,insN_perm _ _ _⟩
theorem insB_mp {B B':LB} {kv xv:LV} (h:insB B kv xv=some B'):∃es,Mp B es∧∀a∈es,keyE kv a.1=some false:=by
  unfold insB at h
  split at h
  · exact ⟨[],.inl ⟨_,rfl,rfl⟩,fun a ha=>by cases ha⟩
  · rename_i es
    split at h
    · rename_i hf
      exact ⟨es,.inr rfl,fndN_facts hf⟩
    · cases h
  · cases h
theorem fndN_none {k:LV}:∀{es:List (LV × LV)},(∀a∈es,keyE k a.1=some false)→fndN k es=some none
  | [],_=>rfl
  | (a,v)::es,h=>by
    have h1:=h (a,v) (.head _)
    simp only [fndN,h1]
    exact fndN_none fun x hx=>h x (.tail _ hx)
theorem mp_insB {B:LB} {es:List (LV × LV)} {kv xv:LV} (h:Mp B es) (hk:∀a∈es,keyE kv a.1=some false):∃es',insB B kv xv=some (.N es')∧es'.Perm ((kv,xv)::es):=by
  rcases h with ⟨c,rfl,rfl⟩|rfl
  · exact ⟨_,rfl,List.Perm.refl _⟩
  · exact ⟨_,by simp only [insB,fndN_none hk],insN_perm _ _ _⟩
theorem keyE_symm {a b:LV} {r:Bool} (h:keyE a b=some r):keyE b a=some r:=by
  cases a<;>cases b<;>simp only [keyE] at h ⊢<;>first|(cases h;done)|skip
  · obtain ⟨h1,h2⟩:=ck_some h
    rw [Nat.eq_of_beq_eq_true h1,Nat.beq_refl]
    rw [beI_eq] at h2 ⊢
    rw [←h2]
    show some _=some _
    congr 1
    exact decide_eq_decide.2 eq_comm
  · rw [beL_eq] at h ⊢
    rw [←h]
    congr 1
    exact decide_eq_decide.2 eq_comm
theorem sat_perm {e:En} {w:World} {i:Nat} {x y:List (LV × LV)} (h:x.Perm y) (hs:(LB.N x).sat e w i):(LB.N y).sat e w i:=by
  simp only [LB.sat] at hs ⊢
  obtain ⟨ents,clock,h1,h2⟩:=hs
  exact ⟨ents,clock,h1,h2.trans (h.map _)⟩
theorem InsAt.fp {k x:Nat} {o:Oper} {b:Nat} {B B':LB} {kv xv:LV} (h:InsAt S Q P N ops act k o b B B' kv xv) (hx:Fp S Q k x):x=b:=by
  rcases hx with ⟨_,h1⟩| ⟨h1,h2⟩
  · rw [h.q] at h1;exact (bt_bitM b x).1 h1
  · rw [h.nn] at h2;omega
theorem RgOk.cbd (R:RgOk S Q P N ops act m F M) {D:Nat→Prop} {x:Nat}:∀k,k≤m→∀B,curB S Q act D k x=some B→B.bd (S m).n
  |0,hk,B,h=>LB.bd_mono (R.mono m 0 (Nat.zero_le m) (Nat.le_refl m)) ((R.hb 0 (Nat.zero_le m)).get x B h).2
  | k + 1, hk,B,h=>by
    rw [curB] at h
    have ih:=R.cbd (D:=D) (x:=x) k (by omega)
    by_cases hw:D k∧Wr S Q k x
    · rw [if_pos hw] at h
      cases ha:act k with
      | none=>
        rw [ha] at h
        exact LB.bd_mono (R.mono m (k+1) hk (Nat.le_refl m)) ((R.hb (k+1) hk).get x B h).2
      | some p=>
        rw [ha] at h
        simp only at h
        have hp:p.1.bd (S m).n∧p.2.bd (S m).n:=by
          cases hI:isI ops k with
          |false=>rw [R.ina k hk hI] at ha;cases ha
          | true=>
            rcases R.ins k hk hI with h1| ⟨o,b,B,B',kv,xv,h1⟩
            · exact absurd (R.wf hk hw.2) (h1 x)
            · rw [h1.act] at ha
              cases ha
              have:=R.mono m k (by omega) (Nat.le_refl m)
              exact ⟨LV.bd_mono this _ h1.kb,LV.bd_mono this _ h1.xb⟩
        unfold insO at h
        split at h
        · cases h
          intro y hy
          rw [List.mem_singleton.1 hy]
          exact hp
        · rename_i es hc
          cases h
          intro y hy
          rcases List.mem_cons.1 ((insN_perm _ _ _).subset hy) with rfl|hy
          · exact hp
          · exact ih _ hc y hy
        · cases h
    · rw [if_neg hw] at h
      exact ih B h
theorem RgOk.nxi (R:RgOk S Q P N ops act m F M) {D:Nat→Prop} {j:Nat} {o:Oper} {b:Nat} {B B':LB} {kv xv:LV} (hI:InsAt S Q P N ops act j o b B B' kv xv) (hIj:isI ops j=true) (hj:j<m) (hDj:¬D j) (hcl:∀k,D k→∀i,Nat.testBit (Bk ops k) i=true→D i) (hBj:∀i,Nat.testBit (Bk ops j) i=true→D i) :
    ∃Bc es,curB S Q act D m b=some Bc∧insB Bc kv xv=some (.N es)∧NxB S Q act m F D j ((S j).h.set 21 b (some Bc)) (((S j).h.set 21 b (some Bc)).set 21 b (some (.N es))):=by
  have hbj:=(R.hb j (Nat.le_of_lt hj)).get b B hI.get
  have htop:=Nat.lt_of_lt_of_le hbj.1 (R.hb j (Nat.le_of_lt hj)).top
  have fpj:Fp S Q j b:=.inl ⟨hbj.1,by rw [hI.q];exact (bt_bitM b b).2 rfl⟩
  have wrj:Wr S Q j b:=.inl ⟨hbj.1,by rw [hI.q];exact (bt_bitM b b).2 rfl⟩
  have ordlow:∀k,k<j→Wr S Q k b→isI ops k=false→D k:=fun k hk hw hi=>hBj k (R.cl k j b hk hj (fun c=>by rw [hi] at c;cases c.1) (.inl ⟨fpj,hw⟩))
  have ordup:∀k,j<k→k<m→Wr S Q k b→isI ops k=false→Nat.testBit (Bk ops k) j=true:=fun k hk hkm hw hi=>R.cl j k b hk hkm (fun c=>by rw [hi] at c;cases c.2) (.inr ⟨hw,fpj⟩)
  have ordhigh:∀k,j<k→k<m→Wr S Q k b→isI ops k=false→¬D k:=fun k hk hkm hw hi hd=>hDj (hcl k hd j (ordup k hk hkm hw hi))
  have insk:∀k,k<m→isI ops k=true→Wr S Q k b→∃p Bt T T',act k=some p∧(S k).h.get b=some Bt∧Mp Bt T∧(∀a∈T,keyE p.1 a.1=some false)∧(S (k+1)).h.get b=some (.N T')∧T'.Perm (p::T):=by
    intro k hk hi hw
    rcases R.ins k hk hi with h| ⟨o2,b2,B2,B2',kv2,xv2,h⟩
    · exact absurd (R.wf hk hw) (h b)
    · have hb2:=h.fp (R.wf hk hw)
      subst hb2
      obtain ⟨T,h1,h2⟩:=insB_mp h.ins
      obtain ⟨T',h3,h4⟩:=h1.ins (kv2,xv2)
      refine ⟨(kv2,xv2),B2,T,T',h.act,h.get,h1,h2,?_,h4⟩
      rw [R.tx hk h.act hw,h.get,h3]
  have c1 : ∀ k,k≤j→(∃Bc Bt C T,curB S Q act D k b=some Bc∧(S k).h.get b=some Bt∧Mp Bc C∧Mp Bt T∧∀a∈C,a∈T)∨curB S Q act D k b=(S k).h.get b:=by
    intro k
    induction k with
    |zero=>exact fun _=>.inr rfl
    | succ k ih=>
      intro hk
      have ih:=ih (by omega)
      rw [curB]
      by_cases hw:Wr S Q k b
      · cases hi:isI ops k with
        | false=>
          rw [if_pos ⟨ordlow k (by omega) hw hi,hw⟩,R.ina k (by omega) hi]
          exact .inr rfl
        | true=>
          obtain ⟨p,Bt,T,T',h1,h2,h3,h4,h5,h6⟩:=insk k (by omega) hi hw
          by_cases hd:D k
          · rw [if_pos ⟨hd,hw⟩,h1]
            simp only
            rcases ih with ⟨Bc,Bt',C,T0,g1,g2,g3,g4,g5⟩|ih
            · rw [h2] at g2
              cases g2
              obtain rfl:=g4.uniq h3
              obtain ⟨C',g6,g7⟩:=g3.ins p
              rw [g1,g6]
              refine .inl ⟨_,_,C',T',rfl,h5,.inr rfl,.inr rfl,fun a ha=>h6.symm.subset ?_⟩
              rcases List.mem_cons.1 (g7.subset ha) with rfl|ha
              · exact .head _
              · exact .tail _ (g5 a ha)
            · rw [ih,←R.tx (by omega) h1 hw]
              exact .inr rfl
          · rw [if_neg fun c=>hd c.1]
            rcases ih with ⟨Bc,Bt',C,T0,g1,g2,g3,g4,g5⟩|ih
            · rw [h2] at g2
              cases g2
              obtain rfl:=g4.uniq h3
              exact .inl ⟨Bc,_,C,T',g1,h5,g3,.inr rfl,fun a ha=>h6.symm.subset (.tail _ (g5 a ha))⟩
            · exact .inl ⟨Bt,_,T,T',ih.trans h2,h5,h3,.inr rfl,fun a ha=>h6.symm.subset (.tail _ ha)⟩
      · rw [if_neg fun c=>hw c.2,R.hs (by omega) hw]
        exact ih
  obtain ⟨Tj,hT1,hT2⟩:=insB_mp hI.ins
  obtain ⟨Bj,Cj,hc1,hc2,hc3⟩:∃Bj Cj,curB S Q act D j b=some Bj∧Mp Bj Cj∧∀a∈Cj,keyE kv a.1=some false:=by
    rcases c1 j (Nat.le_refl j) with ⟨Bc,Bt,C,T,g1,g2,g3,g4,g5⟩|h
    · rw [hI.get] at g2
      cases g2
      obtain rfl:=g4.uniq hT1
      exact ⟨Bc,C,g1,g3,fun a ha=>hT2 a (g5 a ha)⟩
    · exact ⟨B,Tj,h.trans hI.get,hT1,hT2⟩
  have c3 : ∀k,j<k→k<m→D k→Wr S Q k b→∀i,j<i→i≤k→∃Bt T,(S i).h.get b=some Bt∧Mp Bt T∧(kv,xv)∈T:=by
    intro k hk hkm hd hw i
    have hik:isI ops k=true:=by
      cases hi:isI ops k with
      |true=>rfl
      |false=>exact absurd hd (ordhigh k hk hkm hw hi)
    induction i with
    |zero=>intro h;omega
    | succ i ih=>
      intro hji hi
      by_cases hij:i=j
      · subst hij
        obtain ⟨T',h1,h2⟩:=hT1.ins (kv,xv)
        refine ⟨_,T',?_,.inr rfl,h2.symm.subset (.head _)⟩
        rw [R.tx hj hI.act wrj,hI.get,h1]
      · obtain ⟨Bt,T,h1,h2,h3⟩:=ih (by omega) (by omega)
        by_cases hwi:Wr S Q i b
        · cases hii:isI ops i with
          | false=>
            have h4:=hcl k hd i (R.cl i k b (by omega) hkm (fun c=>by rw [hii] at c;cases c.1) (.inl ⟨R.wf hkm hw,hwi⟩))
            exact absurd h4 (ordhigh i (by omega) (by omega) hwi hii)
          | true=>
            obtain ⟨p,Bt',T0,T',g1,g2,g3,g4,g5,g6⟩:=insk i (by omega) hii hwi
            rw [h1] at g2
            cases g2
            obtain rfl:=g3.uniq h2
            exact ⟨_,T',g5,.inr rfl,g6.symm.subset (.tail _ h3)⟩
        · exact ⟨Bt,T,by rw [R.hs (by omega) hwi];exact h1,h2,h3⟩
  have c2 : ∀k,j<k→k≤m→∃Bc C E,curB S Q act D k b=some Bc∧Mp Bc C∧curB S Q act (fun i=>D i∨i=j) k b=some (.N E)∧E.Perm ((kv,xv)::C)∧∀a∈C,keyE kv a.1=some false:=by
    intro k
    induction k with
    |zero=>intro h;omega
    | succ k ih=>
      intro hjk hkm
      rw [curB,curB]
      by_cases hkj:k=j
      · subst hkj
        have hsame:curB S Q act (fun i=>D i∨i=k) k b=curB S Q act D k b:=same k fun q hq _=>⟨fun h=>h.resolve_right (by omega),.inl⟩
        rw [if_neg fun c=>hDj c.1,if_pos ⟨.inr rfl,wrj⟩,hI.act]
        simp only
        rw [hsame,hc1]
        obtain ⟨E,h1,h2⟩:=hc2.ins (kv,xv)
        exact ⟨Bj,Cj,E,rfl,hc2,h1,h2,hc3⟩
      · obtain ⟨Bc,C,E,h1,h2,h3,h4,h5⟩:=ih (by omega) (by omega)
        by_cases hd:D k∧Wr S Q k b
        · have hik:isI ops k=true:=by
            cases hi:isI ops k with
            |true=>rfl
            |false=>exact absurd hd.1 (ordhigh k (by omega) (by omega) hd.2 hi)
          obtain ⟨p,Bt,T,T',g1,g2,g3,g4,g5,g6⟩:=insk k (by omega) hik hd.2
          obtain ⟨Bt',T0,q1,q2,q3⟩:=c3 k (by omega) (by omega) hd.1 hd.2 k (by omega) (Nat.le_refl k)
          rw [g2] at q1
          cases q1
          obtain rfl:=q2.uniq g3
          rw [if_pos hd,if_pos ⟨.inl hd.1,hd.2⟩,g1]
          simp only
          rw [h1,h3]
          obtain ⟨C',r1,r2⟩:=h2.ins p
          refine ⟨_,C',insN p.1 p.2 E,r1,.inr rfl,rfl,?_,fun a ha=>?_⟩
          · exact (insN_perm _ _ _).trans ((h4.cons p).trans ((List.Perm.swap _ _ _).trans (r2.symm.cons _)))
          · rcases List.mem_cons.1 (r2.subset ha) with rfl|ha
            · exact keyE_symm (g4 _ q3)
            · exact h5 a ha
        · rw [if_neg hd,if_neg fun c=>hd ⟨c.1.resolve_right hkj,c.2⟩]
          exact ⟨Bc,C,E,h1,h2,h3,h4,h5⟩
  obtain ⟨Bc,C,E,h1,h2,h3,h4,h5⟩:=c2 m hj (Nat.le_refl m)
  obtain ⟨es,h6,h7⟩:=mp_insB (xv:=xv) h2 h5
  have hg:((S j).h.set 21 b (some Bc)).get b=some Bc:=by rw [Tr.get_put _ _ _ htop,if_pos rfl]
  refine ⟨Bc,es,h1,h6,?_,fun x hxn hx=>?_,fun x hxn hx=>?_,fun x B1 hx hc=>?_,fun x hx=>?_,fun x h0 hw hs=>?_⟩
  · rw [hI.q,hI.nn]
    have:=dd_set (f:=0) (B':=.N es) (R.hb j (Nat.le_of_lt hj)).top hg hbj.1 fun hB=>by
      intro y hy
      rcases List.mem_cons.1 (h7.subset hy) with rfl|hy
      · exact ⟨hI.kb,hI.xb⟩
      · have hbd:=(hB.get b Bc hg).2
        rcases h2 with ⟨c,rfl,rfl⟩|rfl
        · cases hy
        · exact hbd y hy
    rw [zero_or] at this
    exact this
  · obtain rfl:=hI.fp (.inl ⟨hxn,hx⟩)
    by_cases h0:x<(S 0).n
    · exact .inl ⟨h0,R.fp j hj x hx⟩
    · obtain ⟨i,g1,g2,g3⟩:=R.where_ (by omega) j (Nat.le_of_lt hj) hxn
      refine .inr ⟨i,ordlow i g1 (.inr ⟨g2,g3⟩) ?_,g2,g3⟩
      cases hi:isI ops i with
      |false=>rfl
      | true=>
        rcases R.ins i (by omega) hi with h| ⟨_,_,_,_,_,_,h⟩
        · exact absurd (.inr ⟨g2,g3⟩) (h x)
        · rw [h.nn] at g3;omega
  · obtain rfl:=hI.fp (.inl ⟨hxn,hx⟩)
    rw [h1,hg]
  · obtain rfl:=hI.fp hx
    rw [h3] at hc
    cases hc
    exact ⟨.N es,by rw [Tr.get_put _ _ _ htop,if_pos rfl],fun e w hs=>sat_perm (h7.trans h4.symm) hs⟩
  · refine same m fun k hk hw=>⟨fun h=>?_,.inl⟩
    rcases h with h|h
    · exact h
    · subst h;exact absurd (R.wf hj hw) hx
  · obtain rfl:=hI.fp (.inl ⟨Nat.lt_of_lt_of_le h0 (R.mono j 0 (Nat.zero_le j) (Nat.le_of_lt hj)),by rw [hI.q] at hw ⊢;exact hw⟩)
    exact R.some_ h0 j (Nat.le_of_lt hj) (by rw [hI.get];rfl)
end
section
variable {S:Nat→Sn} {Q:Nat→R1} {P:Program} {N:Nat} {ops:Array Oper} {act:Nat→Option (LV × LV)} {m F M:Nat} {w0:World} {a0:Act}
theorem RgOk.slo (R:RgOk S Q P N ops act m F M) {D:Nat→Prop} {j:Nat} {o:Oper} (hx:NxS S ops m D j o) {e f:En} {a:Act} {w:World} (hX:Sx S Q N ops act m F M D w0 e f a w):SlO N f (S j).sl a o:=
  ⟨hX.sz,fun t v ht hv=>hX.sl t v (by rw [hx.look t (List.mem_append_left _ (List.mem_filterMap.2 ⟨.tmp t,Array.mem_toList_iff.2 ht,rfl⟩))];exact hv)⟩
theorem RgOk.wt (R:RgOk S Q P N ops act m F M) {D:Nat→Prop} {j:Nat} {o:Oper} (hx:NxS S ops m D j o) {e f:En} {a:Act} {w:World} (hX:Sx S Q N ops act m F M D w0 e f a w) (b:Bool) (hb:wanted ops (S j).sl o.guard=some b):Region.wanted o (yielded ops a.tmps)=b:=
  wanted_ok (e:=f) (fun g c d v hg hd hv=>hX.sl d v (by rw [hx.look d (by simp [Oper.looksAt,hg,hd])];exact hv)) hb
theorem RgOk.e0 (R:RgOk S Q P N ops act m F M) {D:Nat→Prop} (hDm:∀k,D k→k<m) (e δ:En):ExtD S D δ (e.ext (S 0).n δ):=by
  intro i hi x h1 h2
  have:=R.mono i 0 (Nat.zero_le i) (Nat.le_of_lt (hDm i hi))
  have hx0:¬x<(S 0).n:=by omega
  exact ⟨if_neg hx0,if_neg hx0⟩
theorem RgOk.goO (R:RgOk S Q P N ops act m F M) (hG:∃e,SlT N e (S 0).sl a0∧GdF e (S 0).n F (S 0).h w0) {Q':Exit→Act→World→Prop} {K:Act→World→Prop} {D:Nat→Prop} {j:Nat} {δ:En} {a:Act} {w:World}
    (hj:j<m) (hDj:¬D j) (hcl:∀k,D k→∀i,Nat.testBit (Bk ops k) i=true→D i) (hBj:∀i,Nat.testBit (Bk ops j) i=true→D i) (hDm:∀k,D k→k<m) (hno:∀x,Fp S Q j x→isI ops j=false) (h:St S Q N ops act m F M D w0 a0 δ a w)
    (k:∀a' w' δ',a'.defers=a.defers→St S Q N ops act m F M (fun i=>D i∨i=j) w0 a0 δ' a' w'→K a' w'):wpOp P ops Q' j K a w:=by
  obtain ⟨o,ho,hop⟩:=R.op j hj
  have hx:=R.nxs hj ho hDj hcl hBj
  have hy:=R.nxb hj hDj hcl hBj hno
  have good:∀e f,SlT N e (S 0).sl a0→GdF e (S 0).n F (S 0).h w0→Ag (S 0).n e f→ExtD S D δ f→GoO N (S j).sl (S j).h (S j).n (Q j).fp o w a f:=by
    intro e f hA hg hf hE
    have hX:=h e hA hg f hf hE
    exact ⟨R.slo hx hX,⟨fun x B h1 h2=>hX.sat x B (hy.dom x h1.1 h1.2) (by rw [hy.blk x h1.1 h1.2];exact h2),fun x y B C h1 h2 h3 h4 he=>hX.inj x y B C (hy.dom x h1.1 h1.2) (hy.dom y h2.1 h2.2) (by rw [hy.blk x h1.1 h1.2];exact h3) (by rw [hy.blk y h2.1 h2.2];exact h4) he⟩⟩
  obtain ⟨e0,hA0,hg0⟩:=hG
  have hE0:=R.e0 hDm e0 δ
  have wt:=R.wt hx (h e0 hA0 hg0 _ (En.ext_ag _ _ _) hE0)
  unfold wpOp
  simp only [ho]
  rcases hop with ⟨hw,hO,hp⟩| ⟨hw,hQ,hp⟩
  · rw [if_pos (wt true hw)]
    refine .inl (hO.wp0 ⟨_,good e0 _ hA0 hg0 (En.ext_ag _ _ _) hE0⟩ fun u w' ⟨δ2,hU⟩=>k _ _ _ (put_defers _ _ _) (R.put (δ2:=δ2) hj hDj hDm hx hy h ⟨_,hp,rfl⟩ fun e f hA hg hf hE hag=>?_))
    obtain ⟨t,hv⟩:=hU f (good e f hA hg hf hE)
    rw [←R.nxh j hj,←R.nxn j hj] at t
    refine ⟨t.re (R.dd j hj) (R.hb j (Nat.le_of_lt hj)) hag,fun x hxv=>(hv x hxv).trans (LV.val_ag hag x ?_).symm⟩
    rw [R.nxn j hj]
    exact hO.bd x hxv
  · rw [if_neg (by rw [wt false hw];exact Bool.false_ne_true)]
    refine k _ _ _ (put_defers _ _ _) (R.put (δ2:=⟨id,id⟩) hj hDj hDm hx hy h ⟨_,hp,by rw [hQ]⟩ fun e f hA hg hf hE hag=>?_)
    rw [R.nxh j hj,R.nxn j hj,hQ]
    exact ⟨Tk.refl (R.hb j (Nat.le_of_lt hj)),fun x hx=>by cases hx;rfl⟩
theorem RgOk.goI (R:RgOk S Q P N ops act m F M) (hG:∃e,SlT N e (S 0).sl a0∧GdF e (S 0).n F (S 0).h w0) {Q':Exit→Act→World→Prop} {K:Act→World→Prop} {D:Nat→Prop} {j:Nat} {δ:En} {a:Act} {w:World} {o:Oper} {b:Nat} {B B':LB} {kv xv:LV} (hI:InsAt S Q P N ops act j o b B B' kv xv) (hIj:isI ops j=true)
    (hj:j<m) (hDj:¬D j) (hcl:∀k,D k→∀i,Nat.testBit (Bk ops k) i=true→D i) (hBj:∀i,Nat.testBit (Bk ops j) i=true→D i) (hDm:∀k,D k→k<m) (h:St S Q N ops act m F M D w0 a0 δ a w)
    (k:∀a' w' δ',a'.defers=a.defers→St S Q N ops act m F M (fun i=>D i∨i=j) w0 a0 δ' a' w'→K a' w'):wpOp P ops Q' j K a w:=by
  have hx:=R.nxs hj hI.op hDj hcl hBj
  obtain ⟨Bc,es,hc,hins,hy⟩:=R.nxi hI hIj hj hDj hcl hBj
  have hbj:=R.hb j (Nat.le_of_lt hj)
  have hbl:=(hbj.get b B hI.get).1
  have htop:=Nat.lt_of_lt_of_le hbl hbj.top
  have hjm:=R.mono m j (Nat.le_of_lt hj) (Nat.le_refl m)
  have hg:((S j).h.set 21 b (some Bc)).get b=some Bc:=by rw [Tr.get_put _ _ _ htop,if_pos rfl]
  have hHB:HB (S m).n ((S j).h.set 21 b (some Bc)):=by
    refine ⟨(R.hb m (Nat.le_refl m)).top,fun i C hi=>?_⟩
    rw [Tr.get_put _ _ _ htop] at hi
    by_cases hib:i=b
    · rw [if_pos hib] at hi
      cases hi
      exact ⟨by omega,R.cbd m (Nat.le_refl m) _ hc⟩
    · rw [if_neg hib] at hi
      have:=hbj.get i C hi
      exact ⟨by omega,LB.bd_mono hjm this.2⟩
  have hO:=hI.run (S m).n _ Bc (.N es) hjm hHB hg hins
  have fpb:bt (Q j).fp b:=by rw [hI.q];exact (bt_bitM b b).2 rfl
  have good:∀e f,SlT N e (S 0).sl a0→GdF e (S 0).n F (S 0).h w0→Ag (S 0).n e f→ExtD S D δ f→GoO N (S j).sl ((S j).h.set 21 b (some Bc)) (S m).n (bitM b) o w a f:=by
    intro e f hA hg0 hf hE
    have hX:=h e hA hg0 f hf hE
    refine ⟨R.slo hx hX,⟨fun x C h1 h2=>?_,fun x y C C' h1 h2 _ _ _=>((bt_bitM b x).1 h1.2).trans ((bt_bitM b y).1 h2.2).symm⟩⟩
    obtain rfl:=(bt_bitM b x).1 h1.2
    rw [hg] at h2
    cases h2
    exact hX.sat x _ (hy.dom x hbl fpb) hc
  obtain ⟨e0,hA0,hg0⟩:=hG
  have hE0:=R.e0 hDm e0 δ
  have wt:=R.wt hx (h e0 hA0 hg0 _ (En.ext_ag _ _ _) hE0)
  unfold wpOp
  simp only [hI.op]
  rw [if_pos (wt true hI.want)]
  refine .inl (hO.wp0 ⟨_,good e0 _ hA0 hg0 (En.ext_ag _ _ _) hE0⟩ fun u w' ⟨δ2,hU⟩=>k _ _ _ (put_defers _ _ _) (R.put (δ2:=δ2) hj hDj hDm hx hy h ⟨_,hI.put,by rw [hI.q]⟩ fun e f hA hg1 hf hE hag=>?_))
  obtain ⟨t,_⟩:=hU f (good e f hA hg1 hf hE)
  replace t:=t.re hO.dd hHB (En.ext_ag f (S m).n δ2).symm
  refine ⟨?_,fun x hxv=>by rw [hI.q] at hxv;cases hxv⟩
  rw [hI.nn]
  rw [hI.q]
  refine ⟨Ag.refl _ f,t.gd.sub fun i hi=>?_,⟨t.kp.os,t.kp.tape,t.kp.output,t.kp.size,fun c hc hM=>t.kp.block c hc fun ⟨i,h1,h2,h3,h4⟩=>hM ⟨i,?_,h2,h3,h4⟩⟩,fun i hi hs=>?_⟩
  · rcases hi with hi|hi
    · exact .inl ⟨Nat.lt_of_lt_of_le hi.1 hjm,hi.2⟩
    · omega
  · rw [(bt_bitM b i).1 h2];exact hbl
  · have hib:i≠b:=by omega
    rw [Tr.get_put _ _ _ htop,if_neg hib,Tr.get_put _ _ _ htop,if_neg hib] at hs
    obtain ⟨C,hC⟩:=Option.isSome_iff_exists.1 hs
    have:=(hbj.get i C hC).1
    omega
theorem RgOk.go (R:RgOk S Q P N ops act m F M) (hG:∃e,SlT N e (S 0).sl a0∧GdF e (S 0).n F (S 0).h w0) {Q':Exit→Act→World→Prop} {K:Act→World→Prop} {D:Nat→Prop} {j:Nat} {δ:En} {a:Act} {w:World}
    (hj:j<m) (hDj:¬D j) (hcl:∀k,D k→∀i,Nat.testBit (Bk ops k) i=true→D i) (hBj:∀i,Nat.testBit (Bk ops j) i=true→D i) (hDm:∀k,D k→k<m) (h:St S Q N ops act m F M D w0 a0 δ a w)
    (k:∀a' w' δ',a'.defers=a.defers→St S Q N ops act m F M (fun i=>D i∨i=j) w0 a0 δ' a' w'→K a' w'):wpOp P ops Q' j K a w:=by
  cases hI:isI ops j with
  |false=>exact R.goO hG hj hDj hcl hBj hDm (fun x _=>hI) h k
  | true=>
    rcases R.ins j hj hI with hs| ⟨o,b,B,B',kv,xv,h1⟩
    · exact R.goO hG hj hDj hcl hBj hDm (fun x hx=>absurd hx (hs x)) h k
    · exact R.goI hG h1 hI hj hDj hcl hBj hDm h k
theorem RgOk.fin (R:RgOk S Q P N ops act m F M) {D:Nat→Prop} {δ:En} {a:Act} {w:World} (hall:∀k,k<m→D k) (hDm:∀k,D k→k<m) (h:St S Q N ops act m F M D w0 a0 δ a w):U N (S 0).h (S 0).n F M (S m).h (S m).n (S 0).sl (S m).sl a0 w0 a w:=by
  refine ⟨δ,fun e hA hg=>?_⟩
  have cB:∀x,curB S Q act D m x=(S m).h.get x:=fun x=>R.at_ (Nat.le_refl m) (fun k hk _=>hall k hk) (fun k h1 h2=>by omega)
  have cS:∀s,curS S ops D m s=(S m).sl.get s:=fun s=>cur_at (fun k hk h=>R.hsl hk h) (Nat.le_refl m) (fun k hk _=>hall k hk) (fun k h1 h2=>by omega)
  have hE:ExtD S D δ (e.ext (S 0).n δ):=by
    intro i hi x h1 h2
    have:=R.mono i 0 (Nat.zero_le i) (Nat.le_of_lt (hDm i hi))
    have hx0:¬x<(S 0).n:=by omega
    exact ⟨if_neg hx0,if_neg hx0⟩
  have hX:=h e hA hg _ (En.ext_ag _ _ _) hE
  have dm:∀x,(x<(S 0).n∧bt F x∨(S 0).n≤x∧x<(S m).n)→Dom S F D x:=by
    rintro x (h1| ⟨h1,h2⟩)
    · exact .inl h1
    · obtain ⟨i,h3,h4⟩:=R.where_ h1 m (Nat.le_refl m) h2
      exact .inr ⟨i,hall i h3,h4⟩
  refine ⟨⟨En.ext_ag _ _ _,⟨fun x B h1 h2=>hX.sat x B (dm x h1) (by rw [cB];exact h2),fun x y B C h1 h2 h3 h4 he=>hX.inj x y B C (dm x h1) (dm y h2) (by rw [cB];exact h3) (by rw [cB];exact h4) he⟩,hX.kp,fun x h1 h2=>?_⟩,hX.sz,fun s v hs=>hX.sl s v (by rw [cS];exact hs)⟩
  obtain ⟨B,hB⟩:=Option.isSome_iff_exists.1 h2
  exact hX.nw x h1 (dm x (.inr ⟨h1,((R.hb m (Nat.le_refl m)).get x B hB).1⟩)) (by rw [cB];exact h2)
theorem RgOk.all (R:RgOk S Q P N ops act m F M) (hM:∀x,bt M x→∃k,k<m∧bt (Q k).wm x):Dd (S 0).h (S 0).n F M (S m).h (S m).n:=by
  have up:∀k,k≤m→(S 0).n≤(S k).n:=fun k hk=>R.mono k 0 (Nat.zero_le k) hk
  refine ⟨up m (Nat.le_refl m),fun _=>R.hb m (Nat.le_refl m),fun x hx hm=>?_,fun x hx hn=>?_,fun x hx hm=>?_⟩
  · have:∀j,j≤m→(S j).h.get x=(S 0).h.get x:=by
      intro j
      induction j with
      |zero=>intro _;rfl
      | succ j ih=>
        intro hj
        rw [R.hs (by omega) ?_,ih (by omega)]
        have:=up j (by omega)
        rintro (⟨_,h2⟩| ⟨h1,_⟩)
        · exact hm (R.wm j (by omega) x h2)
        · omega
    exact this m (Nat.le_refl m)
  · cases hg:(S m).h.get x with
    |none=>rfl
    | some B=>
      have:=R.some_ hx m (Nat.le_refl m) (by rw [hg];rfl)
      rw [hn] at this
      cases this
  · obtain ⟨k,hk,h1⟩:=hM x hm
    exact R.fp k hk x ((R.dd k hk).sub x (Nat.lt_of_lt_of_le hx (up k (Nat.le_of_lt hk))) h1)
def unl:List Bool→Nat
  | []=>0
  |b::l=>(if b then 0 else 1)+unl l
theorem unl_set:∀(l:List Bool) (i:Nat),l[i]?=some false→unl (l.set i true)+1=unl l
  | [],i,h=>by cases h
  | b::l,0,h=>by
    rw [List.getElem?_cons_zero] at h
    cases h
    simp [unl]
    omega
  | b::l,i+1,h=>by
    rw [List.getElem?_cons_succ] at h
    have:=unl_set l i h
    rw [List.set_cons_succ,unl,unl]
    omega
theorem unl_zero:∀(l:List Bool),unl l=0→∀i:Nat,l[i]?≠some false
  | [],_,i,hc=>by cases hc
  | b ::l,h,i,hc=>by
    rw [unl] at h
    cases b with
    |false=>simp at h
    | true=>
      cases i with
      |zero=>rw [List.getElem?_cons_zero] at hc;cases hc
      | succ i=>
        rw [List.getElem?_cons_succ] at hc
        exact unl_zero l (by simpa using h) i hc
def Lst (l:Array Bool) (i:Nat):Prop:=l[i]?=some true
theorem getD_lst {l:Array Bool} {i:Nat}:l.getD i false=true↔Lst l i:=by
  unfold Lst
  rw [Array.getD_eq_getD_getElem?]
  cases l[i]? with
  |none=>simp
  |some b=>simp
theorem getD_nlst {l:Array Bool} {i:Nat}:l.getD i true=false↔l[i]?=some false:=by
  rw [Array.getD_eq_getD_getElem?]
  cases l[i]? with
  |none=>simp
  |some b=>simp
theorem bits_in (R:RgOk S Q P N ops act m F M) {D:Nat→Prop} (hD:∀k,D k→∀o,ops[k]?=some o→∀e∈o.after,Region.binds .any e=true→D e.on):∀k,(∀o,ops[k]?=some o→∀e∈o.after,Region.binds .any e=true→D e.on)→∀i,Nat.testBit (Bk ops k) i=true→D i:=by
  intro k
  induction k using Nat.strongRecOn with
  | _ k ih=>
    intro hk i hi
    unfold Bk before at hi
    rcases before_bit hi with h| ⟨e,he,hb,h⟩
    · rw [Nat.zero_testBit] at h;cases h
    · cases ho:ops[k]? with
      |none=>rw [ho] at he;cases he
      | some o=>
        rw [ho] at he
        have he:e∈o.after:=Array.mem_toList_iff.1 he
        have hDe:=hk o ho e he hb
        rcases h with rfl|h
        · exact hDe
        · have hlt:=R.txt.on k o ho e he hb
          rw [revB_len,revB_get ops k e.on hlt] at h
          exact ih e.on hlt (fun o' ho' e' he' hb'=>hD e.on hDe o' ho' e' he' hb') i h
theorem RgOk.any (R:RgOk S Q P N ops act m F M) (hG:∃e,SlT N e (S 0).sl a0∧GdF e (S 0).n F (S 0).h w0) {Q':Exit→Act→World→Prop} (k:∀a w,a.defers=a0.defers→U N (S 0).h (S 0).n F M (S m).h (S m).n (S 0).sl (S m).sl a0 w0 a w→Q' .normal a w) :
    ∀(fuel:Nat) (l:Array Bool) (a:Act) (w:World) (δ:En),l.size=m→unl l.toList≤fuel→(∀k,Lst l k→∀o,ops[k]?=some o→∀e∈o.after,Region.binds .any e=true→Lst l e.on)→St S Q N ops act m F M (Lst l) w0 a0 δ a w→a.defers=a0.defers→wpAny P .any ops Q' fuel l a w:=by
  have lt:∀(l:Array Bool),l.size=m→∀k,Lst l k→k<m:=fun l hl k hk=>hl▸(Array.getElem?_eq_some_iff.1 hk).1
  have done:∀(l:Array Bool) (a:Act) (w:World) (δ:En),l.size=m→St S Q N ops act m F M (Lst l) w0 a0 δ a w→a.defers=a0.defers→Region.ready .any ops l=[]→Q' .normal a w:=by
    intro l a w δ hl h hd hr
    refine k a w hd (R.fin (fun j=>?_) (lt l hl) h)
    induction j using Nat.strongRecOn with
    | _ j ih=>
      intro hj
      cases hg:l[j]? with
      |none=>have:=Array.getElem?_eq_none_iff.1 hg;omega
      | some b=>
        cases b with
        |true=>exact hg
        | false=>
          obtain ⟨o,ho,_⟩:=R.op j hj
          have:j∈Region.ready .any ops l:=mem_ready.2 ⟨getD_nlst.2 hg,o,ho,fun e he hb=>getD_lst.2 (ih e.on (R.txt.on j o ho e he hb) (Nat.lt_trans (R.txt.on j o ho e he hb) hj))⟩
          rw [hr] at this
          cases this
  intro fuel
  induction fuel with
  | zero=>
    intro l a w δ hl hu hcl h hd
    have hr:Region.ready .any ops l=[]:=by
      refine List.eq_nil_iff_forall_not_mem.2 fun j hj=>?_
      have h1:=getD_nlst.1 (mem_ready.1 hj).1
      rw [←Array.getElem?_toList] at h1
      exact unl_zero _ (by omega) j h1
    exact ⟨hr,done l a w δ hl h hd hr⟩
  | succ fuel ih=>
    intro l a w δ hl hu hcl h hd
    refine ⟨done l a w δ hl h hd,fun j hj=>?_⟩
    obtain ⟨h1,o,ho,h2⟩:=mem_ready.1 hj
    have hf:=getD_nlst.1 h1
    have hjm:j<m:=hl▸(Array.getElem?_eq_some_iff.1 hf).1
    have hnD:¬Lst l j:=fun c=>by unfold Lst at c;rw [hf] at c;cases c
    have hin:∀o',ops[j]?=some o'→∀e∈o'.after,Region.binds .any e=true→Lst l e.on:=fun o' ho' e he hb=>by
      rw [ho] at ho'
      cases ho'
      exact getD_lst.1 (h2 e he hb)
    refine R.go hG hjm hnD (fun q hq=>bits_in R hcl q (hcl q hq)) (bits_in R hcl j hin) (lt l hl) h fun a' w' δ' hd' h'=>?_
    have hL:(fun i=>Lst l i∨i=j)=Lst (l.setIfInBounds j true):=by
      funext i
      refine propext ?_
      unfold Lst
      by_cases hij:i=j
      · subst hij
        simp [hl,hjm]
      · rw [Array.getElem?_setIfInBounds_ne (fun c=>hij c.symm)]
        simp [hij]
    rw [hL] at h'
    refine ih _ a' w' δ' (by simp [hl]) ?_ (fun q hq o' ho' e he hb=>?_) h' (hd'.trans hd)
    · have:=unl_set l.toList j (by rw [Array.getElem?_toList];exact hf)
      rw [Array.toList_setIfInBounds]
      omega
    · rw [←hL] at hq ⊢
      rcases hq with hq|rfl
      · exact .inl (hcl q hq o' ho' e he hb)
      · exact .inl (hin o' ho' e he hb)
theorem RgOk.start (R:RgOk S Q P N ops act m F M):∃δ,St S Q N ops act m F M (Lst (Array.replicate m false)) w0 a0 δ a0 w0:=by
  have hno:∀i,¬Lst (Array.replicate m false) i:=by
    intro i h
    unfold Lst at h
    rw [Array.getElem?_replicate] at h
    split at h<;>cases h
  refine ⟨⟨id,id⟩,fun e hA hg f hf hE=>?_⟩
  have cB:∀x,curB S Q act (Lst (Array.replicate m false)) m x=(S 0).h.get x:=fun x=>high m (Nat.zero_le m) (fun k _ _ _ hk=>hno k hk)
  have cS:∀s,curS S ops (Lst (Array.replicate m false)) m s=(S 0).sl.get s:=fun s=>cur_high m (Nat.zero_le m) (fun k _ _ _ hk=>hno k hk)
  have dm:∀x,Dom S F (Lst (Array.replicate m false)) x→x<(S 0).n∧bt F x:=by
    rintro x (h| ⟨i,hi,_⟩)
    · exact h
    · exact absurd hi (hno i)
  have hb0:=R.hb 0 (Nat.zero_le m)
  have hs0:=R.sw 0 (Nat.zero_le m)
  refine ⟨hA.size,fun s v hs=>?_,fun x B h1 h2=>?_,fun x y B C h1 h2 h3 h4 he=>?_,Kp.refl w0 _,fun x h1 h2=>?_⟩
  · rw [cS] at hs
    rw [LV.val_ag hf v (hs0.bd s v hs)]
    exact hA.get s v hs
  · rw [cB] at h2
    exact LB.sat_ag hf (dm x h1).1 rfl (hb0.get x B h2).2 (hg.sat x B (dm x h1) h2)
  · rw [cB] at h3 h4
    rw [hf.ρ x (dm x h1).1,hf.ρ y (dm y h2).1] at he
    exact hg.inj x y B C (dm x h1) (dm y h2) h3 h4 he
  · have:=(dm x h2).1
    omega
end
structure CallU (P:Program) (k:Nat) (args:List LV) (h:Tr LB) (n:Nat) (r:Rs):Prop where
  fn:∃fn,P.funcs[k]?=some fn∧fn.body.isSome=true∧(fn.name == "runtime.NumGoroutine")=false
  dd:Dd h n r.fp r.wm r.h r.n
  bd:r.v.bd r.n
  run:∀w vs,(∃e,vs=(LV.vals e args).toArray∧GdF e n r.fp h w)→Ret P k vs w fun u w'=>∃δ:En,∀e,vs=(LV.vals e args).toArray→GdF e n r.fp h w→Tk h n r.fp r.wm r.h r.n e w (e.ext n δ) w'∧u=r.v.val (e.ext n δ)
def XE.ex:XE→Exit
  | .n=>.normal
  | .x i=>.exit i
  | .r=>.ret
def WpK (P:Program) (K:Nat) (c:Code) (Q:Exit→Act→World→Prop) (a:Act) (w:World):Prop:=match c with
  | .loop b=>Code.rounds P b Q K a w
  |c=>c.wp P Q a w
theorem WpK.wp {P:Program} {K:Nat} {c:Code} {Q:Exit→Act→World→Prop} {a:Act} {w:World} (h:WpK P K c Q a w):c.wp P Q a w:=by
  unfold WpK at h
  split at h
  · exact wp_loop_rounds K h
  · exact h
structure CodeU (P:Program) (K N:Nat) (sl:Tr LV) (c:Code) (h:Tr LB) (n:Nat) (r:Rs):Prop where
  dd:Dd h n r.fp r.wm r.h r.n
  sw:SW N r.n r.sl
  run:∀a w,a.defers=[]→(∃e,SlT N e sl a∧GdF e n r.fp h w)→∀Q:Exit→Act→World→Prop,(∀a' w',a'.defers=[]→U N h n r.fp r.wm r.h r.n sl r.sl a w a' w'→Q r.e.ex a' w')→WpK P K c Q a w
def codeOk:Code→Bool
  | .region _ ops d=>!d || regOk ops
  | .seq a b=>codeOk a && codeOk b
  | .cond _ a b=>codeOk a && codeOk b
  | .block _ b=>codeOk b
  | .loop b=>codeOk b
  | .scope b=>codeOk b
  |_=>true
structure CtxOkC (P:Program) (X:Ctx):Prop extends CtxOk P X where
  mixed:P.follows .mixedOrders=true
  txt:∀k f c,X.fn k=some f→f.body=some c→codeOk c=true
  orc:∀k g,X.orc k=some g→∀args h n q,g args h n=some q→HB n h→LV.bds n args→∃v,q.v=some v∧CallU P k args h n ⟨.r,.e,v,q.h,q.n,q.fp,q.wm⟩
def Sound (P:Program) (X:Ctx) (K:Nat) (ih:Task→Tr LB→Nat→Option Rs):Prop:=
  ∀ t h n r,ih t h n=some r→HB n h→match t with
    | .code N sl c=>N≤4096→codeOk c=true→SW N n sl→CodeU P K N sl c h n r
    | .call k args=>LV.bds n args→CallU P k args h n r
section
variable {P:Program} {X:Ctx} {K N:Nat} {sl:Tr LV} {h:Tr LB} {n:Nat} {ih:Task→Tr LB→Nat→Option Rs}
theorem callU_op {o:Oper} {f:Operand} {aa:Array Operand} {ats:Array TypeId} {k:Nat} {a b vs:List LV} {r:Rs} {q:R1} (hS:SW N n sl) (hop:o.op= .call ⟨.value f,aa,ats⟩) (hf:opd sl f=some (.F (.func k) a b)) (ha:opds sl aa.toList=some vs)
    (hc:CallU P k (a++vs++b) h n r) (hq:q=⟨some r.v,r.h,r.n,r.fp,r.wm⟩):OpU P N sl h n o q:=by
  subst hq
  refine ⟨hc.dd,fun u hu=>by cases hu;exact hc.bd,fun w a0 ⟨e0,ho,hg⟩=>.inr ?_⟩
  have hs:∀cs b,o.op≠.select cs b:=fun cs b c=>by rw [hop] at c;cases c
  have ex:∀e,SlO N e sl a0 o→(execOp a0.eval o).run P w= .ok (.enter k (LV.vals e (a++vs++b)).toArray) w:=by
    intro e ho
    rw [←actE_eval ho hs]
    have hA:=actE_ok hS e a0
    have h1:=hA.ev hf
    have h2:=evs_arr hA ha
    obtain ⟨fn,g1,g2,g3⟩:=hc.fn
    have g4:fn.body.isNone=false:=by cases hb:fn.body<;>simp_all
    obtain ⟨d,op,T,pos,af,g⟩:=o
    simp only at hop
    subst hop
    simp only [LV.val] at h1
    simp only [execOp,resolve,h2,h1,Deferred.ofValue,Sem.run_bind,Sem.run_pure,Result.andThen_ok,invoke,callFunc,run_program,g1,g3,g4,Bool.false_eq_true,if_false]
    congr 2
    apply Array.ext'
    simp [vals_map]
  refine ⟨k,_,ex e0 ho,Ret.mono (hc.run w _ ⟨e0,rfl,hg⟩) fun u w' ⟨δ,hU⟩=>⟨δ,fun e he=>?_⟩⟩
  have h1:=ex e0 ho
  rw [ex e he.1] at h1
  have h2:(LV.vals e (a++vs++b)).toArray=(LV.vals e0 (a++vs++b)).toArray:=by
    have:=(Result.ok.inj h1).1
    exact (Next.enter.inj this).2
  obtain ⟨t,hu⟩:=hU e h2.symm he.2
  exact ⟨t,_,rfl,hu⟩
theorem bds_app {x y:List LV} (h1:LV.bds n x) (h2:LV.bds n y):LV.bds n (x++y):=bds_iff.2 fun v hv=>(List.mem_append.1 hv).elim (bds_iff.1 h1 v) (bds_iff.1 h2 v)
theorem opA_ok (hX:CtxOkC P X) (hs:Sound P X K ih) {o:Oper} {q:R1} (hq:opA X ih sl h n o.op=some q) (hB:HB n h) (hS:SW N n sl):OpU P N sl h n o q:=by
  obtain ⟨d,op,T,pos,af,g⟩:=o
  simp only at hq
  unfold opA at hq
  split at hq
  · rename_i c
    obtain ⟨callee,aa,ats⟩:=c
    split at hq
    · rename_i vs ha
      split at hq
      · rename_i bi hcal
        simp only at hcal
        subst hcal
        exact opU_of_does hB hS (fun cs b c=>by cases c) (does_blt hX.toCtxOk hB hS.bd ha hq)
      · rename_i f hcal
        simp only at hcal
        subst hcal
        split at hq
        · rename_i k a b hf
          have hfb:=opd_bd hS.bd hf
          simp only [LV.bd] at hfb
          have hbs:=bds_app (bds_app hfb.1 (opds_bd hS.bd ha)) hfb.2
          split at hq
          · rename_i gg hg
            obtain ⟨v,hv,hc⟩:=hX.orc k gg hg _ h n q hq hB hbs
            refine callU_op hS rfl hf ha hc ?_
            obtain ⟨qv,qh,qn,qf,qw⟩:=q
            simp only at hv
            rw [hv]
          · split at hq
            · rename_i r hr
              cases hq
              exact callU_op hS rfl hf ha (hs _ h n r hr hB hbs) rfl
            · cases hq
        · cases hq
      · cases hq
    · cases hq
  · refine opU_of_does hB hS (fun cs b c=>?_) (does_op hX.toCtxOk hB hS.bd hq)
    simp only at c
    subst c
    simp only [opX] at hq
    cases hq
theorem one_ok {ops:Array Oper} {o:Oper} {s:Sn} {q:R1} {sl':Tr LV} (h:one X ih N ops o s=some (q,sl')) :
    (wanted ops s.sl o.guard=some true∧opA X ih s.sl s.h s.n o.op=some q∧putS N s.sl o.dst q.v=some sl')∨(wanted ops s.sl o.guard=some false∧q=⟨some (.T []),s.h,s.n,0,0⟩∧putS N s.sl o.dst (some (.T []))=some sl'):=by
  unfold one at h
  split at h
  · rename_i hw
    split at h
    · rename_i q' ho
      split at h
      · rename_i s' hp
        cases h
        exact .inl ⟨hw,ho,hp⟩
      · cases h
    · cases h
  · rename_i hw
    split at h
    · rename_i s' hp
      cases h
      exact .inr ⟨hw,rfl,hp⟩
    · cases h
  · cases h
theorem runD_ok (hX:CtxOk P X) {ops:Array Oper} (hN:N≤4096) (hreg:regOk ops=true) (hop:∀sl h n (o:Oper) q,opA X ih sl h n o.op=some q→HB n h→SW N n sl→OpU P N sl h n o q) {r:Rs} (hq:runD X ih N ops ops.toList 0 [] [] sl h n 0 0=some r) (hB:HB n h) (hS:SW N n sl) :
    r.e= .n∧Dd h n r.fp r.wm r.h r.n∧SW N r.n r.sl∧∀a w,(∃e,SlT N e sl a∧GdF e n r.fp h w)→∀Q:Exit→Act→World→Prop,(∀a' w',a'.defers=a.defers→U N h n r.fp r.wm r.h r.n sl r.sl a w a' w'→Q .normal a' w')→wpAny P .any ops Q ops.size (Array.replicate ops.size false) a w:=by
  obtain ⟨g1,g2,g3,g4,g5,F,M,g6,g7,g8,g9⟩:=runD_tr (X:=X) (ih:=ih) (N:=N) (ops:=ops) (s0:=⟨sl,h,n⟩) ops.toList 0 0 0 r rfl hq
  rw [Nat.zero_or] at g6 g7
  rw [Nat.zero_add,Array.length_toList] at g3 g4 g5 g8 g9
  obtain ⟨S,hSd⟩:∃S,S=Sk X ih N ops ⟨sl,h,n⟩:=⟨_,rfl⟩
  obtain ⟨Q,hQd⟩:∃Q,Q=Qk X ih N ops ⟨sl,h,n⟩:=⟨_,rfl⟩
  have hS0:S 0=⟨sl,h,n⟩:=by rw [hSd];rfl
  have base:∀k,k<ops.size→∃o,ops[k]?=some o∧one X ih N ops o (S k)=some (Q k,(S (k+1)).sl)∧(S (k+1)).h=(Q k).h∧(S (k+1)).n=(Q k).n:=by
    intro k hk
    obtain ⟨o,h1,h2,h3,h4,_⟩:=g1 k (Nat.zero_le k) hk
    rw [hSd,hQd]
    exact ⟨o,h1,h2,h3,h4⟩
  have inv:∀k,k≤ops.size→HB (S k).n (S k).h∧SW N (S k).n (S k).sl:=by
    intro k
    induction k with
    |zero=>intro _;rw [hS0];exact ⟨hB,hS⟩
    | succ k ihk=>
      intro hk
      obtain ⟨hb,hs⟩:=ihk (by omega)
      obtain ⟨o,h1,h2,h3,h4⟩:=base k (by omega)
      rw [h3,h4]
      rcases one_ok h2 with ⟨_,q2,q3⟩| ⟨_,q2,q3⟩
      · have hO:=hop _ _ _ o _ q2 hb hs
        exact ⟨hO.dd.hb hb,putS_sw hN q3 hs hO.dd.nn hO.bd⟩
      · rw [q2]
        exact ⟨hb,putS_sw hN q3 hs (Nat.le_refl _) fun x hx=>by cases hx;exact trivial⟩
  obtain ⟨act,hact⟩:∃act:Nat→Option (LV × LV),act=fun k=>match ops[k]? with
    | some o=>(match o.op with
      | .insert _ _ kk xx=>(match opd (S k).sl kk,opd (S k).sl xx with
        |some a,some b=>some (a,b)
        |_,_=>none)
      |_=>none)
    |none=>none:=⟨_,rfl⟩
  have R : RgOk S Q P N ops act ops.size F M:=by
    refine ⟨hN,rfl,fun k hk=>?_,fun k hk=>?_,fun k hk=>?_,fun k hk=>(inv k hk).1,fun k hk=>(inv k hk).2,fun k hk=>?_,fun j k x hj hk hnI hx=>?_,fun k hk x hx=>?_,fun k hk x hx=>?_,regOk_ok hreg,fun k hk hi=>?_,fun k hk hi=>?_⟩
    · obtain ⟨o,h1,h2,h3,h4⟩:=base k hk
      obtain ⟨hb,hs⟩:=inv k (Nat.le_of_lt hk)
      rcases one_ok h2 with ⟨q1,q2,q3⟩| ⟨q1,q2,q3⟩
      · exact ⟨o,h1,.inl ⟨q1,hop _ _ _ o _ q2 hb hs,q3⟩⟩
      · exact ⟨o,h1,.inr ⟨q1,q2,q3⟩⟩
    · obtain ⟨o,h1,h2,h3,h4⟩:=base k hk;exact h3
    · obtain ⟨o,h1,h2,h3,h4⟩:=base k hk;exact h4
    · obtain ⟨o,h1,h2,h3,h4⟩:=base k hk
      obtain ⟨hb,hs⟩:=inv k (Nat.le_of_lt hk)
      rw [h3,h4]
      rcases one_ok h2 with ⟨q1,q2,q3⟩| ⟨q1,q2,q3⟩
      · exact (hop _ _ _ o _ q2 hb hs).dd
      · rw [q2];exact Dd.refl _ _
    · obtain ⟨o,h1,h2,h3,h4,hc⟩:=g1 k (Nat.zero_le k) hk
      rcases clash_ok k hc j hj with h5|h5|h5
      · exact h5
      rotate_left
      · exact absurd ⟨h5.2,h5.1⟩ hnI
      · exfalso
        have tr:∀i,Fp S Q i x→i<ops.size→bt (fk X ih N ops ⟨sl,h,n⟩ i).1 x:=by
          intro i hi him
          obtain ⟨o,h1,h2,h3,h4⟩:=base i him
          unfold fk
          rw [←hSd,←hQd]
          rw [bt_or]
          rcases hi with hi|hi
          · exact .inl hi.2
          · rw [h4] at hi;exact .inr (newM_bt hi.1 hi.2)
        have tw:∀i,Wr S Q i x→i<ops.size→bt (fk X ih N ops ⟨sl,h,n⟩ i).2.1 x:=by
          intro i hi him
          obtain ⟨o,h1,h2,h3,h4⟩:=base i him
          unfold fk
          rw [←hSd,←hQd]
          rw [bt_or]
          rcases hi with hi|hi
          · exact .inl hi.2
          · rw [h4] at hi;exact .inr (newM_bt hi.1 hi.2)
        obtain ⟨z1,z2⟩:=and_or_zero (x:=x) h5
        rcases hx with ⟨hx1,hx2⟩| ⟨hx1,hx2⟩
        · exact z1 ⟨tr k hx1 hk,tw j hx2 (by omega)⟩
        · exact z2 ⟨tw k hx1 hk,tr j hx2 (by omega)⟩
    · rw [hQd] at hx
      exact (g8 x).2 ⟨k,Nat.zero_le k,hk,hx⟩
    · rw [hQd] at hx
      exact (g9 x).2 ⟨k,Nat.zero_le k,hk,hx⟩
    · obtain ⟨o,h1,_⟩:=base k hk
      rw [hact]
      unfold isI at hi
      rw [h1] at hi
      simp only at hi
      simp only [h1]
      cases hop:o.op<;>first|rfl|(rw [hop] at hi;cases hi)
    · obtain ⟨o, h1,h2,h3,h4⟩:=base k hk
      obtain ⟨hb,hs⟩:=inv k (Nat.le_of_lt hk)
      unfold isI at hi
      rw [h1] at hi
      simp only at hi
      rcases one_ok h2 with ⟨q1,q2,q3⟩| ⟨q1,q2,q3⟩
      · obtain ⟨d,op,T,pos,af,g⟩:=o
        cases op with
        | insert t mm kk xx=>
          have q4:=q2
          simp only [opA,opX] at q2
          split at q2
          · rename_i b kv xv g1 g2 g3
            split at q2
            · rename_i B gB
              split at q2
              · rename_i B' gB'
                obtain ⟨gk,q5⟩:=ck_some q2
                have q6:=Option.some.inj q5
                have hn:(S (k+1)).n=(S k).n:=by rw [h4,←q6]
                have hh:(S (k+1)).h=(S k).h.set 21 b (some B'):=by rw [h3,←q6]
                refine .inr ⟨_,b,B,B',kv,xv,h1,q1,?_,gB,gB',hh,hn,?_,?_,opd_bd hs.bd g2,opd_bd hs.bd g3,fun n' H B1 B2 hn' hB' hg' hi'=>?_⟩
                · rw [hact]
                  simp only [h1,g2,g3]
                · rw [←q6,hh]
                · rw [←q6] at q3;exact q3
                · refine opU_of_does hB' ⟨hs.bd.mono hn',hs.lt⟩ (fun cs b c=>by cases c) (does_op hX hB' (hs.bd.mono hn') ?_)
                  simp only [opX,g1,g2,g3,hg',hi',gk]
                  rfl
              · cases q2
            · cases q2
          · cases q2
        |_=>cases hi
      · refine .inl fun x hx=>?_
        rcases hx with ⟨_,hx⟩| ⟨hx1,hx2⟩
        · rw [q2] at hx;exact bt_zero x hx
        · rw [h4,q2] at hx2
          simp only at hx2
          omega
  have hM:∀x,bt M x→∃k,k<ops.size∧bt (Q k).wm x:=fun x hx=>by
    obtain ⟨k,_,h2,h3⟩:=(g9 x).1 hx
    exact ⟨k,h2,by rw [hQd];exact h3⟩
  have hdd:=R.all hM
  rw [←hSd] at g3 g4 g5
  rw [g3,g4,g5,g6,g7]
  rw [hS0] at hdd
  refine ⟨g2,hdd,(inv _ (Nat.le_refl _)).2,fun a w hG Q' k=>?_⟩
  obtain ⟨δ,hst⟩:=R.start (w0:=w) (a0:=a)
  refine R.any (by rw [hS0];exact hG) (fun a' w' hd hu=>k a' w' hd ?_) ops.size _ a w δ (by simp) ?_ (fun q hq=>?_) hst rfl
  · rw [hS0] at hu;exact hu
  · have:∀m,unl (List.replicate m false)≤m:=by
      intro m
      induction m with
      |zero=>exact Nat.le_refl 0
      |succ m ihm=>rw [List.replicate_succ,unl];simp;omega
    rw [Array.toList_replicate]
    exact this _
  · unfold Lst at hq
    rw [Array.getElem?_replicate] at hq
    split at hq<;>cases hq
end
section
variable {P:Program} {X:Ctx} {K N:Nat} {sl sl':Tr LV} {h:Tr LB} {n:Nat} {ih:Task→Tr LB→Nat→Option Rs} {a a':Act} {w w':World}
theorem gdF_drew {e:En} {f:Nat} (hg:GdF e n f h w):GdF e n f h {w with drawn:=w.drawn+1}:=⟨fun i B hi hb=>sat_same rfl (hg.sat i B hi hb),hg.inj⟩
theorem U.drew {h':Tr LB} {n' f m:Nat} (hu:U N h n f m h' n' sl sl' a {w with drawn:=w.drawn+1} a' w'):U N h n f m h' n' sl sl' a w a' w':=by
  obtain ⟨δ,hu⟩:=hu
  refine ⟨δ,fun e hA hg=>?_⟩
  obtain ⟨t,hA'⟩:=hu e hA (gdF_drew hg)
  exact ⟨⟨t.ag,t.gd,⟨t.kp.os,t.kp.tape,t.kp.output,t.kp.size,t.kp.block⟩,t.nw⟩,hA'⟩
theorem slots0_get:∀(vs:List LV) (k:Nat) (t:Tr LV) (i:Nat) (v:LV),k+vs.length≤4096→(slots0 k vs t).get i=some v→(k≤i∧vs[i - k]?=some v)∨t.get i=some v
  | [],k,t,i,v,hl,h=>.inr h
  | x ::vs,k,t,i,v,hl,h=>by
    rw [List.length_cons] at hl
    rw [slots0] at h
    rcases slots0_get vs (k+1) _ i v (by omega) h with ⟨h1,h2⟩|h1
    · refine .inl ⟨by omega,?_⟩
      rw [show i - k=(i - (k+1))+1 by omega,List.getElem?_cons_succ]
      exact h2
    · rw [Tr.get_put t i _ (by unfold top;omega)] at h1
      by_cases hik:i=k
      · rw [if_pos hik] at h1
        cases h1
        refine .inl ⟨by omega,?_⟩
        rw [show i - k=0 by omega]
        rfl
      · rw [if_neg hik] at h1;exact .inr h1
def resF (tm:Array Value):ResultVar→Sem Value
  | .tmp t=>pure (tm.getD t undef)
  | .cell c t=>do loadVar t (←asAddr (tm.getD c undef))
theorem results_eq (fn:Func) (tm:Array Value):results fn tm=(do let vs ←fn.results.mapM (resF tm);pure (if h:vs.size=1 then vs[0] else .tuple vs)):=rfl
theorem resF_tmp (tm:Array Value) (t:Tmp):resF tm (.tmp t)=pure (tm.getD t undef):=rfl
theorem resF_cell (tm:Array Value) (c:Tmp) (t:TypeId):resF tm (.cell c t)=(do loadVar t (←asAddr (tm.getD c undef))):=rfl
theorem resV_one (hX:CtxOk P X) (hS:SW N n sl) (hB:HB n h):∀{l:List ResultVar} {vs:List LV} {f:Nat},resV X sl h l=some (vs,f)→LV.bds n vs∧∀e a w,SlT N e sl a→GdF e n f h w→
    (l.mapM (resF a.tmps)).run P w= .ok (LV.vals e vs) w
  | [],vs,f,hq=>by
    cases hq
    exact ⟨trivial,fun e a w _ _=>rfl⟩
  | .tmp t::l,vs,f,hq=>by
    simp only [resV] at hq
    split at hq
    · rename_i v vs' f' h1 h2
      cases hq
      obtain ⟨hb,hr⟩:=resV_one hX hS hB h2
      refine ⟨⟨hS.bd t v h1,hb⟩,fun e a w hA hg=>?_⟩
      have hg1:a.tmps.getD t undef=v.val e:=by simp [Array.getD_eq_getD_getElem?,hA.get t v h1]
      simp only [List.mapM_cons,Sem.run_bind,resF_tmp,Sem.run_pure,Result.andThen_ok,hr e a w hA hg,hg1,LV.vals]
    · cases hq
  | .cell c t::l,vs,f,hq=>by
    simp only [resV] at hq
    split at hq
    · rename_i b o y vs' f' h1 hy h2
      split at hq
      · rename_i cs hrd
        split at hq
        · rename_i v hm
          cases hq
          obtain ⟨hb,hr⟩:=resV_one hX hS hB h2
          have hrb:=rdC_bd hB hrd
          refine ⟨⟨mkV_bd hrb.1 hm,hb⟩,fun e a w hA hg=>?_⟩
          have hg1:a.tmps.getD c undef= .pointer (some ⟨e.ρ b,o,none⟩):=by simp [Array.getD_eq_getD_getElem?,hA.get c _ h1,LV.val]
          have hld:=run_load (hX.ty t y hy) (show Gd e _ h w from hg) ⟨hrb.2,(bt_or _ _ _).2 (.inr ((bt_bitM b b).2 rfl))⟩ hrd hm
          have hr2:=hr e a w hA (gdF_left hg)
          simp only [List.mapM_cons,Sem.run_bind,resF_cell,hg1,asAddr,Sem.run_pure,Result.andThen_ok,hld,hr2,LV.vals]
        · cases hq
      · cases hq
    · cases hq
def resL:List LV→LV
  | [v]=>v
  | []=>.T []
  |v::u::r=>.T (v::u::r)
theorem run_results (hX:CtxOk P X) (hS:SW N n sl) (hB:HB n h) {fn:Func} {vs:List LV} {f:Nat} (hq:resV X sl h fn.results.toList=some (vs,f)) {e:En} (hA:SlT N e sl a) (hg:GdF e n f h w) :
    (results fn a.tmps).run P w= .ok ((resL vs).val e) w:=by
  have h1:=(resV_one hX hS hB hq).2 e a w hA hg
  rw [results_eq,Array.mapM_eq_mapM_toList,←bind_pure_comp]
  simp only [Sem.run_bind,h1,Result.andThen_ok,Sem.run_pure]
  match vs with
  | []=>rfl
  | [v]=>rfl
  | v::u::r=>
    have:¬(LV.vals e (v::u::r)).toArray.size=1:=by simp [LV.vals]
    rw [dif_neg this]
    simp only [resL,LV.val]
theorem frameA (args:List Value) (N:Nat) (hl:args.length≤N) (i:Nat) (v:Value) (h:args[i]?=some v):(args.toArray++Array.replicate (N - args.toArray.size) undef)[i]?=some v:=by
  have hlt:i<args.length:=(List.getElem?_eq_some_iff.1 h).1
  rw [Array.getElem?_append_left (by simpa using hlt)]
  simpa using h
theorem slots0_ok {args:List LV} (hl:args.length≤N) (hN:N≤4096) (e:En):SlT N e (slots0 0 args .e) ⟨(LV.vals e args).toArray++Array.replicate (N - (LV.vals e args).toArray.size) undef,[]⟩:=by
  refine ⟨by simp [vals_length];omega,fun i v hi=>?_⟩
  rcases slots0_get args 0 .e i v (by omega) hi with ⟨_,h1⟩|h1
  · refine frameA _ N (by rw [vals_length];exact hl) i _ ?_
    rw [vals_get]
    rw [Nat.sub_zero] at h1
    rw [h1];rfl
  · cases h1
theorem slots0_sw {args:List LV} (hl:args.length≤N) (hN:N≤4096) (hb:LV.bds n args):SW N n (slots0 0 args .e):=by
  have key:∀i v,(slots0 0 args .e).get i=some v→args[i]?=some v:=fun i v hi=>by
    rcases slots0_get args 0 .e i v (by omega) hi with ⟨_,h1⟩|h1
    · exact h1
    · cases h1
  exact ⟨fun i v hi=>bds_iff.1 hb v (List.mem_of_getElem? (key i v hi)),fun i v hi=>by have:=(List.getElem?_eq_some_iff.1 (key i v hi)).1;omega⟩
theorem dd_look {h1:Tr LB} {n1 f f2 m:Nat} (d:Dd h n f m h1 n1):Dd h n (f ||| f2) m h1 n1:=⟨d.nn,d.hb,d.sm,d.dom,fun i hi hm=>(bt_or _ _ _).2 (.inl (d.sub i hi hm))⟩
theorem tk_look {h1:Tr LB} {n1 f f2 m:Nat} {e e':En} (hB:HB n h) (d:Dd h n f m h1 n1) (hg:GdF e n (f ||| f2) h w) (t:Tk h n f m h1 n1 e w e' w'):Tk h n (f ||| f2) m h1 n1 e w e' w'∧GdF e' n1 f2 h1 w':=by
  have h1:=(t.trans hB d (Dd.look h1 n1 f2) hg)
  have h2:=h1.2 e' w' (Tk.look (d.hb hB) h1.1)
  rw [Nat.or_zero] at h2
  exact ⟨h2,h1.1⟩
theorem step_call (hX:CtxOkC P X) (hs:Sound P X K ih) {k:Nat} {args:List LV} {r:Rs} (hq:step X ih (.call k args) h n=some r) (hB:HB n h) (hb:LV.bds n args):CallU P k args h n r:=by
  unfold step at hq
  simp only at hq
  split at hq
  · rename_i fn hfn
    split at hq
    · rename_i c hc
      obtain ⟨hck,hq1⟩:=ck_some hq
      clear hq
      obtain ⟨hc1,hc2⟩:=(Bool.and_eq_true _ _).mp hck
      have hc1:=Nat.le_of_ble_eq_true hc1
      have hc2:=Nat.le_of_ble_eq_true hc2
      obtain ⟨hf1,hf2⟩:=hX.fn k fn hfn
      split at hq1
      · rename_i r0 hr0
        have hU:CodeU P K fn.ntmps (slots0 0 args .e) c h n r0:=hs _ h n r0 hr0 hB hc2 (hX.txt k fn c hfn hc) (slots0_sw hc1 hc2 hb)
        cases hx:r0.e.isX with
        |true=>rw [hx,cond_true] at hq1;cases hq1
        | false=>
          rw [hx,cond_false] at hq1
          have hend:r0.e.ex= .normal∨r0.e.ex= .ret:=by cases he:r0.e<;>rw [he] at hx<;>simp [XE.isX] at hx<;>simp [XE.ex]
          have main:∀(vs:List LV) (f:Nat) (v:LV),resV X r0.sl r0.h fn.results.toList=some (vs,f)→resL vs=v→(LV.bds r0.n vs→v.bd r0.n)→CallU P k args h n ⟨.r,.e,v,r0.h,r0.n,r0.fp ||| f,r0.wm⟩:=by
            intro vs f v hrv hve hvb
            have hB1:=hU.dd.hb hB
            refine ⟨⟨fn,hf1,by rw [hc];rfl,hf2⟩,dd_look hU.dd,hvb (resV_one (P:=P) hX.toCtxOk hU.sw hB1 hrv).1,fun w vs' ⟨e0,hv0,hg0⟩=>?_⟩
            subst hv0
            refine calls_of_wp hf1 hc (WpK.wp (K:=K) ?_)
            refine hU.run _ w rfl ⟨e0,slots0_ok hc1 hc2 e0,gdF_left hg0⟩ _ fun a' w' hd ⟨δ,hu⟩=>?_
            have all:∀e,(LV.vals e0 args).toArray=(LV.vals e args).toArray→GdF e n (r0.fp ||| f) h w→Tk h n (r0.fp ||| f) r0.wm r0.h r0.n e w (e.ext n δ) w'∧(results fn a'.tmps).run P w'= .ok (v.val (e.ext n δ)) w':=by
              intro e he hg
              rw [he] at hu
              obtain ⟨t,hA'⟩:=hu e (slots0_ok hc1 hc2 e) (gdF_left hg)
              obtain ⟨t2,hg2⟩:=tk_look hB hU.dd hg t
              refine ⟨t2,?_⟩
              rw [run_results hX.toCtxOk hU.sw hB1 hrv hA' hg2,hve]
            have h0:=(all e0 rfl hg0).2
            have fin:bodyPost P fn (fun e w''=>∃u,e= .returned u∧∃δ:En,∀e,(LV.vals e0 args).toArray=(LV.vals e args).toArray→GdF e n (r0.fp ||| f) h w→Tk h n (r0.fp ||| f) r0.wm r0.h r0.n e w (e.ext n δ) w''∧u=v.val (e.ext n δ)) .ret a' w':=by
              refine bodyPost_ret h0 hd ⟨_,rfl,δ,fun e he hg=>⟨(all e he hg).1,?_⟩⟩
              have:=(all e he hg).2
              rw [h0] at this
              exact (Result.ok.inj this).1
            rcases hend with he|he
            · rw [he];exact fin
            · rw [he];exact fin
          split at hq1
          · rename_i v f hrv
            cases hq1
            exact main [v] f v hrv rfl fun hb=>hb.1
          · rename_i vs f hn hrv
            cases hq1
            refine main vs f (.T vs) hrv ?_ fun hb=>hb
            match vs,hn with
            | [],_=>rfl
            | [v],hn=>exact absurd rfl (hn v)
            |v::u::r,_=>rfl
          · cases hq1
      · cases hq1
    · cases hq
  · cases hq
end
section
variable {P:Program} {X:Ctx} {K N:Nat} {sl sl':Tr LV} {h:Tr LB} {n:Nat} {ih:Task→Tr LB→Nat→Option Rs}
theorem CodeU.wp {c:Code} {r:Rs} (hc:CodeU P K N sl c h n r) {a:Act} {w:World} (hd:a.defers=[]) (hG:∃e,SlT N e sl a∧GdF e n r.fp h w) {Q:Exit→Act→World→Prop} (k:∀a' w',a'.defers=[]→U N h n r.fp r.wm r.h r.n sl r.sl a w a' w'→Q r.e.ex a' w'):c.wp P Q a w:=(hc.run a w hd hG Q k).wp
theorem ex_then {K':Act→World→Prop} {Q:Exit→Act→World→Prop} {e:XE} {a:Act} {w:World} (he:e.ex≠.normal) (h:Q e.ex a w):Exit.then K' Q e.ex a w:=by
  cases e with
  |n=>exact absurd rfl he
  |x i=>exact h
  |r=>exact h
theorem ex_ng {Q:Exit→Act→World→Prop} {e:XE} {a:Act} {w:World} (h:Q e.ex a w):Exit.noGoto Q e.ex a w:=by cases e<;>exact h
theorem good_left {f g:Nat} {a:Act} {w:World} (hG:∃e,SlT N e sl a∧GdF e n (f ||| g) h w):∃e,SlT N e sl a∧GdF e n f h w:=hG.imp fun e he=>⟨he.1,gdF_left he.2⟩
theorem step_code (hX:CtxOkC P X) (hs:Sound P X K ih) {c:Code} {r:Rs} (hN:N≤4096) (hc:codeOk c=true) (hS:SW N n sl) (hB:HB n h) (hq:step X ih (.code N sl c) h n=some r):CodeU P (K+1) N sl c h n r:=by
  have sd:∀{sl c h n r},ih (.code N sl c) h n=some r→HB n h→codeOk c=true→SW N n sl→CodeU P K N sl c h n r:=fun h1 h2 h3 h4=>hs _ _ _ _ h1 h2 hN h3 h4
  have hop:∀sl h n (o:Oper) q,opA X ih sl h n o.op=some q→HB n h→SW N n sl→OpU P N sl h n o q:=fun sl h n o q h1 h2 h3=>opA_ok hX hs h1 h2 h3
  cases c with
  | skip=>
    simp only [step] at hq
    cases hq
    exact ⟨Dd.refl h n,hS,fun a w hd hG Q k=>wp_skip (k a w hd (U.refl hB hS))⟩
  | label l=>
    simp only [step] at hq
    cases hq
    exact ⟨Dd.refl h n,hS,fun a w hd hG Q k=>wp_label (k a w hd (U.refl hB hS))⟩
  | exit i=>
    simp only [step] at hq
    cases hq
    exact ⟨Dd.refl h n,hS,fun a w hd hG Q k=>wp_exit (k a w hd (U.refl hB hS))⟩
  | ret=>
    simp only [step] at hq
    cases hq
    exact ⟨Dd.refl h n,hS,fun a w hd hG Q k=>wp_ret (k a w hd (U.refl hB hS))⟩
  | region id ops d=>
    simp only [step] at hq
    cases d with
    | false=>
      rw [cond_false] at hq
      obtain ⟨f,m,h1,h2,h3,hd,hS2,hrun⟩:=runL_ok hN hop ops.toList sl h n 0 0 r hq hB hS
      rw [Nat.zero_or] at h1 h2
      rw [←h1,←h2] at hd
      refine ⟨hd,hS2,fun a w hdf hG Q k=>?_⟩
      refine wp_region_list (hrun a w (by rw [←h1];exact hG) Q fun a' w' hd' hu=>?_)
      have:=k a' w' (hd'.trans hdf) (by rw [h1,h2];exact hu)
      rw [h3] at this
      exact this
    | true=>
      rw [cond_true] at hq
      simp only [codeOk,Bool.not_true,Bool.false_or] at hc
      obtain ⟨h3,hd,hS2,hrun⟩:=runD_ok hX.toCtxOk hN hc hop hq hB hS
      refine ⟨hd,hS2,fun a w hdf hG Q k=>?_⟩
      refine wp_region_any hX.mixed (hrun a _ (hG.imp fun e he=>⟨he.1,gdF_drew he.2⟩) Q fun a' w' hd' hu=>?_)
      have:=k a' w' (hd'.trans hdf) hu.drew
      rw [h3] at this
      exact this
  | seq x y=>
    simp only [codeOk] at hc
    obtain ⟨hc1,hc2⟩:=(Bool.and_eq_true _ _).mp hc
    simp only [step] at hq
    split at hq
    · rename_i s1 v1 h1 n1 f1 w1 hi
      have h1:=sd hi hB hc1 hS
      have hB1:=h1.dd.hb hB
      split at hq
      · rename_i r2 hi2
        cases hq
        have h2:=sd hi2 hB1 hc2 h1.sw
        refine ⟨h1.dd.trans h2.dd,h2.sw,fun a w hd hG Q k=>?_⟩
        refine wp_seq (h1.wp hd (good_left hG) fun a' w' hd' hu=>?_)
        exact h2.wp hd' (U.good hB h1.dd h2.dd hu hG) fun a'' w'' hd'' hu2=>k a'' w'' hd'' (U.trans hB h1.dd h2.dd hu hu2)
      · cases hq
    · rename_i hno
      have h1:=sd hq hB hc1 hS
      refine ⟨h1.dd,h1.sw,fun a w hd hG Q k=>?_⟩
      refine wp_seq (h1.wp hd hG fun a' w' hd' hu=>ex_then (fun he=>?_) (k a' w' hd' hu))
      obtain ⟨re,rsl,rv,rh,rn,rf,rw_⟩:=r
      cases re with
      |n=>exact hno _ _ _ _ _ _ hq
      |x i=>cases he
      |r=>cases he
  | cond co x y=>
    simp only [codeOk] at hc
    obtain ⟨hc1,hc2⟩:=(Bool.and_eq_true _ _).mp hc
    simp only [step] at hq
    split at hq
    · rename_i t ht
      have h1:=sd hq hB (by cases t<;>assumption) hS
      refine ⟨h1.dd,h1.sw,fun a w hd hG Q k=>?_⟩
      have hev:a.eval co= .bool t:=by
        obtain ⟨e,hA,_⟩:=hG
        have:=hA.ev ht
        simpa only [LV.val] using this
      refine wp_cond hev ?_
      have h2:=h1.wp hd hG k
      cases t<;>exact h2
    · cases hq
  | block id b=>
    simp only [codeOk] at hc
    simp only [step] at hq
    split at hq
    · rename_i i s1 v1 h1 n1 f1 w1 hi
      have h1:=sd hi hB hc hS
      cases hq
      refine ⟨h1.dd,h1.sw,fun a w hd hG Q k=>?_⟩
      refine wp_block (h1.wp hd hG fun a' w' hd' hu=>?_)
      have hk:=k a' w' hd' hu
      cases hb:Nat.beq i id with
      | true=>
        rw [hb,cond_true] at hk
        obtain rfl:=Nat.eq_of_beq_eq_true hb
        exact inB_eq hk
      | false=>
        rw [hb,cond_false] at hk
        exact inB_ne hb hk
    · rename_i hno
      have h1:=sd hq hB hc hS
      refine ⟨h1.dd,h1.sw,fun a w hd hG Q k=>?_⟩
      refine wp_block (h1.wp hd hG fun a' w' hd' hu=>?_)
      have hk:=k a' w' hd' hu
      obtain ⟨re,rsl,rv,rh,rn,rf,rw_⟩:=r
      cases re with
      |n=>exact hk
      |x i=>exact absurd hq (hno _ _ _ _ _ _ _)
      |r=>exact hk
  | loop b=>
    simp only [step] at hq
    split at hq
    · rename_i s1 v1 h1 n1 f1 w1 hi
      have h1:=sd hi hB hc hS
      have hB1:=h1.dd.hb hB
      split at hq
      · rename_i r2 hi2
        cases hq
        have h2:=sd hi2 hB1 hc h1.sw
        refine ⟨h1.dd.trans h2.dd,h2.sw,fun a w hd hG Q k=>?_⟩
        show b.wp P (Exit.then (Code.rounds P b Q K) Q) a w
        refine h1.wp hd (good_left hG) fun a' w' hd' hu=>?_
        exact h2.run a' w' hd' (U.good hB h1.dd h2.dd hu hG) Q fun a'' w'' hd'' hu2=>k a'' w'' hd'' (U.trans hB h1.dd h2.dd hu hu2)
      · cases hq
    · rename_i hno
      have h1:=sd hq hB hc hS
      refine ⟨h1.dd,h1.sw,fun a w hd hG Q k=>?_⟩
      show b.wp P (Exit.then (Code.rounds P b Q K) Q) a w
      refine h1.wp hd hG fun a' w' hd' hu=>ex_then (fun he=>?_) (k a' w' hd' hu)
      obtain ⟨re,rsl,rv,rh,rn,rf,rw_⟩:=r
      cases re with
      |n=>exact hno _ _ _ _ _ _ hq
      |x i=>cases he
      |r=>cases he
  | scope b=>
    simp only [codeOk] at hc
    simp only [step] at hq
    have h1:=sd hq hB hc hS
    exact ⟨h1.dd,h1.sw,fun a w hd hG Q k=>wp_scope_straight (h1.wp hd hG fun a' w' hd' hu=>ex_ng (k a' w' hd' hu))⟩
  |rangeFunc f p s b=>simp only [step] at hq;cases hq
  |goto l=>simp only [step] at hq;cases hq
  |refuse y=>simp only [step] at hq;cases hq
theorem go_ok (hX:CtxOkC P X):∀K,Sound P X K (go X K)
  |0=>fun t h n r hq=>by cases hq
  | K+1=>fun t h n r hq hB=>by
    cases t with
    |code N sl c=>exact fun hN hc hS=>step_code hX (go_ok hX K) hN hc hS hB hq
    |call k args=>exact fun hb=>step_call hX (go_ok hX K) hq hB hb
theorem run_ok (hX:CtxOkC P X) {K k:Nat} {v:LV} {h':Tr LB} {n' f m:Nat} {x:XE} {s:Tr LV} (hq:go X K (.call k []) .e 0=some ⟨x,s,v,h',n',f,m⟩) (w:World):Ret P k #[] w fun u w'=>(∃e,u=v.val e)∧Kp w noM w':=by
  have hB:HB 0 .e:=⟨by unfold top;omega,fun i B h=>by cases h⟩
  have hc:CallU P k [] .e 0 _:=go_ok hX K _ _ _ _ hq hB trivial
  have hg:∀e,GdF e 0 f .e w:=fun e=>⟨fun i B hi=>absurd hi.1 (Nat.not_lt_zero i),fun i j B C hi=>absurd hi.1 (Nat.not_lt_zero i)⟩
  refine Ret.mono (hc.run w #[] ⟨⟨id,id⟩,rfl,hg _⟩) fun u w' ⟨δ,hu⟩=>?_
  obtain ⟨t,hv⟩:=hu ⟨id,id⟩ rfl (hg _)
  exact ⟨⟨_,hv⟩,⟨t.kp.os,t.kp.tape,t.kp.output,t.kp.size,fun b hb _=>t.kp.block b hb fun ⟨i,hi,_⟩=>Nat.not_lt_zero i hi⟩⟩
end
def lvL:List Value→Option (List LV)
  | []=>some []
  | c::cs=>match lvC c,lvL cs with
    |some v,some vs=>some (v::vs)
    |_,_=>none
def lvs:Value→Option (Bool × List LV)
  | .agg cs=>match lvL cs.toList with
    |some l=>some (true,l)
    |none=>none
  | v=>match lvC v with
    |some x=>some (false,[x])
    |none=>none
def aggD:TypeDesc→Bool
  | .struct _=>true
  | .array _ _=>true
  |_=>false
def sized (P:Program):List (Nat × Nat)→Bool
  | []=>true
  | p::r=>(match P.info? p.1 with
    |some i=>!Nat.beq i.size 0
    |none=>false) && sized P r
def kindD (P:Program) (t:Nat):TypeDesc→TK
  | .int k=>.int k
  | .slice e=>.sl e
  | .struct s=>bif sized P (s.toList.map fun f=>(f.type,f.offset)) then .st (s.toList.map fun f=>(f.type,f.offset)) else .oth
  | .map k e=>.mp k e
  | .array k e=>.ar k e
  | .string=>.str
  | .bool=>.bo
  | .pointer e=>bif Nat.beq e (P.pointee t) then .pt else .oth
  | .interface _=>.ifc
  |_=>.oth
def tyP (P:Program) (t:Nat):Option Ty:=match P.info? t,P.underlying t with
  | some i,some d=>match i.zero with
    | some z=>match lvs z with
      |some p=>ck (Nat.beq i.size p.2.length && (p.1 == aggD d)) (some ⟨p.1,p.2,i.bytes,kindD P t d⟩)
      |none=>none
    |none=>none
  |_,_=>none
theorem lvC_noA {c:Value} {v:LV} (h:lvC c=some v) (l:List LV):v≠.A l:=by
  unfold lvC at h
  split at h<;>first|(cases h;intro c;cases c)|cases h
theorem lvL_ok:∀{cs:List Value} {l:List LV},lvL cs=some l→(∀e,LV.vals e l=cs)∧LV.bds 0 l
  | [],l,h=>by cases h;exact ⟨fun e=>rfl,trivial⟩
  | c ::cs,l,h=>by
    simp only [lvL] at h
    split at h
    · rename_i v vs h1 h2
      cases h
      obtain ⟨g1,g2⟩:=lvL_ok h2
      exact ⟨fun e=>by rw [LV.vals,g1 e,(lvC_val (n:=0) e h1).1],⟨(lvC_val (n:=0) ⟨id,id⟩ h1).2,g2⟩⟩
    · cases h
theorem sized_ok {P:Program}:∀{l:List (Nat × Nat)},sized P l=true→∀p∈l,∃i,P.info? p.1=some i∧i.size≠0
  | [],_,p,hp=>by cases hp
  | q ::r,h,p,hp=>by
    simp only [sized] at h
    obtain ⟨h1,h2⟩:=(Bool.and_eq_true _ _).mp h
    rcases List.mem_cons.1 hp with rfl|hp
    · cases hi:P.info? p.1 with
      |none=>rw [hi] at h1;cases h1
      | some i=>
        rw [hi] at h1
        refine ⟨i,rfl,fun c=>?_⟩
        simp only [c] at h1
        cases h1
    · exact sized_ok h2 p hp
theorem lvs_ok {z:Value} {p:Bool × List LV} (h:lvs z=some p) (by_:Nat) (k:TK):(∀e,(Ty.mk p.1 p.2 by_ k).zero.val e=z)∧LV.bds 0 p.2∧(p.1=false→∃v,p.2=[v]∧∀l,v≠.A l):=by
  unfold lvs at h
  split at h
  · split at h
    · rename_i l hl
      cases h
      obtain ⟨g1,g2⟩:=lvL_ok hl
      refine ⟨fun e=>?_,g2,fun c=>by cases c⟩
      simp only [Ty.zero,LV.val]
      rw [g1 e]
    · cases h
  · split at h
    · rename_i v hv
      cases h
      refine ⟨fun e=>?_,⟨(lvC_val (n:=0) ⟨id,id⟩ hv).2,trivial⟩,fun _=>⟨v,rfl,lvC_noA hv⟩⟩
      simp only [Ty.zero]
      exact (lvC_val (n:=0) e hv).1
    · cases h
theorem tyP_ok {P:Program} {t:Nat} {y:Ty} (h:tyP P t=some y):TyOk P t y:=by
  unfold tyP at h
  split at h
  · rename_i i d hi hd
    split at h
    · rename_i z hz
      split at h
      · rename_i p hp
        obtain ⟨hc,hy⟩:=ck_some h
        obtain ⟨hc1,hc2⟩:=(Bool.and_eq_true _ _).mp hc
        cases hy
        obtain ⟨g1,g2,g3⟩:=lvs_ok hp i.bytes (kindD P t d)
        refine ⟨⟨i,hi,fun e=>by rw [hz,g1 e],Nat.eq_of_beq_eq_true hc1,rfl⟩,g2,g3,⟨d,hd,?_⟩,?_⟩
        · have:=eq_of_beq hc2
          simp only
          rw [this]
          cases d<;>rfl
        · cases d with
          | struct s=>
            simp only [kindD]
            cases hs:sized P (s.toList.map fun f=>(f.type,f.offset)) with
            |true=>rw [cond_true];exact ⟨⟨s,hd,rfl⟩,sized_ok hs⟩
            |false=>rw [cond_false];trivial
          | pointer e=>
            simp only [kindD]
            cases hs:Nat.beq e (P.pointee t) with
            |true=>rw [cond_true];rw [Nat.eq_of_beq_eq_true hs] at hd;exact hd
            |false=>rw [cond_false];trivial
          |_=>first|exact hd|trivial|exact ⟨_,hd⟩
      · cases h
    · cases h
  · cases h
def fnOk (f:Func):Bool:=!(f.name == "runtime.NumGoroutine") && match f.body with
  |some c=>codeOk c
  |none=>true
def inL (k:Nat):List Nat→Bool
  | []=>false
  |b::r=>Nat.beq k b || inL k r
def fnP (P:Program) (bad:List Nat) (k:Nat):Option Func:=bif inL k bad then none else P.funcs[k]?
def fnsOk (bad:List Nat):List Func→Nat→Bool
  | [],_=>true
  |f::r,k=>(inL k bad || fnOk f) && fnsOk bad r (k+1)
theorem fnsOk_get {bad:List Nat}:∀{l:List Func} {k:Nat},fnsOk bad l k=true→∀i f,l[i]?=some f→inL (k+i) bad=false→fnOk f=true
  | [],k,h,i,f,hi,hb=>by cases hi
  | g::l,k,h,0,f,hi,hb=>by
    simp only [fnsOk] at h
    obtain ⟨h1,h2⟩:=(Bool.and_eq_true _ _).mp h
    cases hi
    rw [Nat.add_zero] at hb
    rw [hb,Bool.false_or] at h1
    exact h1
  | g::l,k,h,i+1,f,hi,hb=>by
    simp only [fnsOk] at h
    obtain ⟨h1,h2⟩:=(Bool.and_eq_true _ _).mp h
    exact fnsOk_get h2 i f (by simpa using hi) (by rw [show k+1+i=k+(i+1) by omega];exact hb)
theorem fnP_ok {P:Program} {bad:List Nat} (h:fnsOk bad P.funcs.toList 0=true) {k:Nat} {f:Func} (hf:fnP P bad k=some f):P.funcs[k]?=some f∧fnOk f=true:=by
  unfold fnP at hf
  cases hb:inL k bad with
  |true=>rw [hb,cond_true] at hf;cases hf
  | false=>
    rw [hb,cond_false] at hf
    exact ⟨hf,fnsOk_get h k f (by rw [Array.getElem?_toList];exact hf) (by rw [Nat.zero_add];exact hb)⟩
theorem run_eqF3 {P:Program} {w:World} {d:Nat} {fs:List Field} {t1 t2 t3:TypeId} {k1 k2:Int} {a1 b1 a2 b2:ByteArray} (h:fs.map (fun f=>(f.name != "_",f.type,f.offset))=[(true,t1,0),(true,t2,1),(true,t3,2)])
    (h1:P.underlying t1=some (.int .i64)) (h2:P.underlying t2=some .string) (h3:P.underlying t3=some .string) (p1:P.plainKey t1=true) (p2:P.plainKey t2=true) (p3:P.plainKey t3=true) :
    (Op.eqFields (d+1) #[.int .i64 k1,.string a1,.string b1] #[.int .i64 k2,.string a2,.string b2] fs).run P w= .ok (k1 == k2 && (a1.toList == a2.toList && b1.toList == b2.toList)) w:=by
  rcases fs with _| ⟨f1,_| ⟨f2,_| ⟨f3,_| ⟨f4,fs⟩⟩⟩⟩
  · cases h
  · exact absurd (congrArg List.length h) (by simp)
  · exact absurd (congrArg List.length h) (by simp)
  rotate_left
  · exact absurd (congrArg List.length h) (by simp)
  · simp only [List.map_cons,List.map_nil,List.cons.injEq,Prod.mk.injEq,and_true,bne_iff_ne,ne_eq] at h
    obtain ⟨⟨n1,rfl,o1⟩,⟨n2,rfl,o2⟩,⟨n3,rfl,o3⟩⟩:=h
    simp only [Op.eqFields,n1,n2,n3,ne_eq,not_false_eq_true,if_true,o1,o2,o3,Sem.run_bind]
    rw [run_part_plain w p1 (v:=.int .i64 k1) rfl]
    simp only [Result.andThen_ok]
    rw [run_part_plain w p1 (v:=.int .i64 k2) rfl]
    simp only [Result.andThen_ok,run_equalIn_int w d _ _ .i64 k1 k2 h1]
    cases hk:k1 == k2
    · simp
    simp only [Bool.not_true,Bool.false_eq_true,if_false,Bool.true_and,Sem.run_bind]
    rw [run_part_plain w p2 (v:=.string a1) rfl]
    simp only [Result.andThen_ok]
    rw [run_part_plain w p2 (v:=.string a2) rfl]
    simp only [Result.andThen_ok,run_equalIn_string w d _ a1 a2 h2]
    cases ha:a1.toList == a2.toList
    · simp
    simp only [Bool.not_true,Bool.false_eq_true,if_false,Bool.true_and,Sem.run_bind]
    rw [run_part_plain w p3 (v:=.string b1) rfl]
    simp only [Result.andThen_ok]
    rw [run_part_plain w p3 (v:=.string b2) rfl]
    simp only [Result.andThen_ok,run_equalIn_string w d _ b1 b2 h3]
    cases hb:b1.toList == b2.toList<;>simp
structure Out3 (P:Program) (t:TypeId):Prop where
  st:∃t1 t2 t3,(P.fieldsOf t).toList.map (fun f=>(f.name != "_",f.type,f.offset))=[(true,t1,0),(true,t2,1),(true,t3,2)]∧P.underlying t1=some (.int .i64)∧P.underlying t2=some .string∧P.underlying t3=some .string∧P.plainKey t1=true∧P.plainKey t2=true∧P.plainKey t3=true
  ge:P.eqGuardType P.depth t=false
  si:P.stoodInHeld t=false
  un:P.underlying t=some (.struct (P.fieldsOf t))
def eqO3 (t0 t:Nat):List LV→List LV→Option Bool
  | [.I .i64 a,.S b,.S c],[.I .i64 d,.S e,.S f]=>ck (Nat.beq t t0) (some (beI a d && (beL b e && beL c f)))
  |_,_=>none
theorem eqO3_ok {P:Program} {t0 t:Nat} {l r:List LV} {b:Bool} (ht:Out3 P t0) (h:eqO3 t0 t l r=some b) (e:En) (w:World) (x y:Operand) :
    (eqGuard .eql t x y (.agg (LV.vals e l).toArray) (.agg (LV.vals e r).toArray)).run P w= .ok () w∧(binOp .eql t (.agg (LV.vals e l).toArray) (.agg (LV.vals e r).toArray)).run P w= .ok (.bool b) w:=by
  unfold eqO3 at h
  split at h
  · obtain ⟨h1,h2⟩:=ck_some h
    cases h2
    obtain rfl:=Nat.eq_of_beq_eq_true h1
    refine ⟨run_eqGuard_agg w .eql _ _ _ _ _ ht.ge,?_⟩
    rw [run_eql_struct,show (10000:Nat)=9999+1 from rfl,run_equalIn_agg w 9999 _ _ _ ht.un ht.si]
    obtain ⟨t1,t2,t3,g1,g2,g3,g4,g5,g6,g7⟩:=ht.st
    simp only [LV.vals,LV.val]
    rw [run_eqF3 (d:=9998) g1 g2 g3 g4 g5 g6 g7]
    simp only [Result.andThen_ok,beI_eq,beL_eq]
    have hm:∀x:List UInt8,(ByteArray.mk x.toArray).toList=x:=mkS_toList
    have h1:∀x y:Int,(x == y)=decide (x=y):=fun x y=>by by_cases h:x=y<;>simp [h]
    have h2:∀x y:List UInt8,(x == y)=decide (x=y):=fun x y=>by by_cases h:x=y<;>simp [h]
    simp only [hm,h1,h2]
  · cases h
def ctxP (P:Program) (bad:List Nat) (t0:Nat) (orc:Nat→Option (List LV→Tr LB→Nat→Option R1)):Ctx:=⟨fnP P bad,tyP P,orc,eqO3 t0⟩
theorem ctxP_ok {P:Program} {bad:List Nat} {t0:Nat} {orc:Nat→Option (List LV→Tr LB→Nat→Option R1)} (hm:P.follows .mixedOrders=true) (hf:fnsOk bad P.funcs.toList 0=true) (ht:Out3 P t0)
    (ho:∀k g,orc k=some g→∀args h n q,g args h n=some q→HB n h→LV.bds n args→∃v,q.v=some v∧CallU P k args h n ⟨.r,.e,v,q.h,q.n,q.fp,q.wm⟩):CtxOkC P (ctxP P bad t0 orc):=by
  refine ⟨⟨fun k f hk=>?_,fun t y hy=>tyP_ok hy,fun t l r b hb e w x y=>eqO3_ok ht hb e w x y⟩,hm,fun k f c hk hc=>?_,ho⟩
  · obtain ⟨h1,h2⟩:=fnP_ok hf hk
    unfold fnOk at h2
    obtain ⟨h3,h4⟩:=(Bool.and_eq_true _ _).mp h2
    exact ⟨h1,by simpa using h3⟩
  · obtain ⟨h1,h2⟩:=fnP_ok hf hk
    unfold fnOk at h2
    obtain ⟨h3,h4⟩:=(Bool.and_eq_true _ _).mp h2
    rw [hc] at h4
    exact h4
end Go.Xc
namespace Go.Fw
open Go
theorem rd_slots1 {N:Nat} {l:List (Nat × Value)} {a:Act} {Ds:List Deferred} {p:Nat} {v1:Value} (hA:Sl N l a Ds) (hp:p<N) :
    Sl N ((p,v1)::l) {tmps:=((#[p]:Array Tmp).zip #[v1]).foldl (fun t (p,v)=>t.setIfInBounds p v) a.tmps,defers:=[]}:=by
  have h0:Sl N l {tmps:=a.tmps,defers:=[]} []:=⟨⟨hA.size,hA.get⟩,rfl⟩
  have h2:=h0.put hp v1
  have e:((#[p]:Array Tmp).zip #[v1]).foldl (fun t (p,v)=>t.setIfInBounds p v) a.tmps=a.tmps.setIfInBounds p v1:=by simp
  rw [e]
  exact h2
end Go.Fw
namespace Go.Proofs.YtbapejgbjpcadaaGreatDoor
open Go Go.Fw
set_option linter.unusedVariables false
theorem in_of_ret {P:Program} {k n:Nat} {args args':Array Value} {w:World} {R:World→Prop} (ha:args'=args) (h:Ret P k args w (fun _ w'=>R w')):CallsIn Fence.wide n P k args' w (fun e w'=>(∃v,e= .returned v)∧R w'):=by
  subst ha
  exact callsIn_wide.2 (Calls.mono h fun e W' ⟨v,he,h⟩=>⟨⟨v,he⟩,h⟩)
def bk (xs:List Int) (i:Nat):Int:=xs.getD (xs.length - (i+1)) 0
theorem bk_at {xs:List Int} {j:Nat} (h:j<xs.length):xs[j]?=some (bk xs (xs.length - (j+1))):=by
  unfold bk
  rw [show xs.length - (xs.length - (j+1)+1)=j by omega,List.getD_eq_getElem?_getD,List.getElem?_eq_getElem h]
  rfl
theorem flat_take {xs:List Int} {j:Nat} {x:Int} (h:xs[j]?=some x):flat Fw.encI (xs.take (j+1))=flat Fw.encI (xs.take j)++[.int .i64 x]:=by
  rw [List.take_add_one,h,flat_append];rfl
section
attribute [local irreducible] Code.wp wpList Calls Ex Op1 sat bat blk cb own Go.Fw.mp Go.Fw.mpO Go.Fw.mpI Go.Fw.mpE Go.Fw.itr HS Rd Ret wkD Hp Cl Cls Exit.then Exit.inBlock Exit.noGoto bodyPost Go.Fw.flat wk2 Go.Fw.all Go.Fw.owns wpOp
theorem vals_spec (w0:World) (q o:Option Addr) (c:Nat) (xs:List Int) (its:Nat→List It) (hq:Rd w0 q [.slice o xs.length c]) (hR:Rd w0 o (flat Fw.encI xs)) (hl:xs.length≤1048576) (l:Nat) (X Y:It) (W:World)
    (hY:∀i W1,i<xs.length→HS w0 noM (X::Y::its (i+1)) W1→YieldAt Fence.wide 2 Tryz.prog l #[.int .i64 (bk xs i)] W1 (fun e W'=>e= .returned (.bool true)∧HS w0 noM (X::Y::its i) W'))
    (hH:HS w0 noM (X::Y::its xs.length) W) :
    CallsIn Fence.wide 3 Tryz.prog 48 (#[.func (.yield l) #[] #[]]++#[.pointer (some (sat q 0))]) W (fun e W'=>(∃v,e= .returned v)∧HS w0 noM (X::Y::its 0) W'):=by
  refine in_of_ret (args:=#[.func (.yield l) #[] #[],.pointer (some (sat q 0))]) (by simp) ?_
  have hsp:Sp o xs.length:=hR.sp (sz:=1) (flat_length Fw.encI_len _) (by omega)
  have hv0:([.slice o xs.length c]:List Value)[0]?=some (.slice o xs.length c):=rfl
  (refine ENT (N:=16) Tryz.func48 Tryz.ntmps48 ?_;intro a hA)
  repeat' (first|(first|(refine GT ?_ ?_<;>intro hg<;>clear hA a<;>intro a hA<;>(first|exact FA|replace hg:=dTr hg|replace hg:=dFa hg|skip))|(refine XT ?_;apply XE;(first|(apply ex_load;rfl;exact cl_rd hq id hv0));clear hA a;intro a hA)|(refine QT ?_;clear hA a;intro a hA)|(first|(refine BT ?_;clear hA hH;rintro _ w ⟨bN,rfl,hH⟩ a hA)|(refine LT ?_;clear hA hH;rintro _ w ⟨oN,rfl,hH⟩ a hA)|(refine AT ?_;clear hA;rintro _ w ⟨oN,cN,rfl,hH2⟩ a hA;clear hH;have hH:=(hH2 _ (by (repeat constructor))).tail;clear hH2)|(refine S0T ?_;clear hH;rintro _ w hH)))|refine CT ?_|(refine DT ?_ ?_<;>intro hc<;>try (exfalso;omega))|(first|(refine DSK ?_;clear hA a;intro a hA)|(first|(refine DLT ?_;clear hA hH;rintro _ w ⟨oN,rfl,hH⟩;refine ⟨STT,?_⟩;intro a hA)|(refine DAT ?_;clear hA;rintro _ w ⟨oN,cN,rfl,hH2⟩;clear hH;have hH:=(hH2 _ (by (repeat constructor))).tail;clear hH2;refine ⟨STT,?_⟩;intro a hA))))
  refine wp_lpk (S:=Nat) (fun j a w=>j≤xs.length∧HS w0 noM (X::Y::its (xs.length - j)) w∧Sl 16 [(0,.func (.yield l) #[] #[]),(5,.slice o xs.length c),(6,.int .i64 xs.length),(7,.int .i64 j)] a) (fun j=>xs.length - j)
    (fun a w=>HS w0 noM (X::Y::its 0) w∧Sl 16 [] a) 0 ⟨Nat.zero_le _,by rw [Nat.sub_zero];exact hH,(hA.sub SBT)⟩ ?_ ?_
  · clear hA hH
    rintro j a w ⟨hj,hH,hA⟩
    by_cases hlt:j<xs.length
    rotate_left
    · obtain rfl:j=xs.length:=by omega
      rw [Nat.sub_self] at hH
      repeat' (first|(first|(refine GT ?_ ?_<;>intro hg<;>clear hA a<;>intro a hA<;>(first|exact FA|replace hg:=dTr hg|replace hg:=dFa hg|skip))|(refine QT ?_;clear hA a;intro a hA)|(first|(refine BT ?_;clear hA hH;rintro _ w ⟨bN,rfl,hH⟩ a hA)|(refine LT ?_;clear hA hH;rintro _ w ⟨oN,rfl,hH⟩ a hA)|(refine AT ?_;clear hA;rintro _ w ⟨oN,cN,rfl,hH2⟩ a hA;clear hH;have hH:=(hH2 _ (by (repeat constructor))).tail;clear hH2)|(refine S0T ?_;clear hH;rintro _ w hH)))|refine CT ?_|(refine DT ?_ ?_<;>intro hc<;>try (exfalso;omega))|(first|(refine DSK ?_;clear hA a;intro a hA)|(first|(refine DLT ?_;clear hA hH;rintro _ w ⟨oN,rfl,hH⟩;refine ⟨STT,?_⟩;intro a hA)|(refine DAT ?_;clear hA;rintro _ w ⟨oN,cN,rfl,hH2⟩;clear hH;have hH:=(hH2 _ (by (repeat constructor))).tail;clear hH2;refine ⟨STT,?_⟩;intro a hA))))
      exact ⟨hH,(hA.sub SBT)⟩
    have hx:=bk_at hlt
    have hv:(flat Fw.encI xs)[j*1]?=some (.int .i64 (bk xs (xs.length - (j+1)))):=flat_get (off:=0) Fw.encI_len hx rfl
    refine st_mid (fun a w=>HS w0 noM (X::Y::its (xs.length - j)) w∧Sl 16 [(0,.func (.yield l) #[] #[]),(5,.slice o xs.length c),(6,.int .i64 xs.length),(7,.int .i64 j),(8,.bool true)] a) ?_ ?_
    · have hd:decide ((j:Int)<xs.length)=true:=decide_eq_true (by omega)
      repeat' (first|(first|(refine GT ?_ ?_<;>intro hg<;>clear hA a<;>intro a hA<;>(first|exact FA|replace hg:=dTr hg|replace hg:=dFa hg|skip))|(refine QT ?_;clear hA a;intro a hA)|(first|(refine BT ?_;clear hA hH;rintro _ w ⟨bN,rfl,hH⟩ a hA)|(refine LT ?_;clear hA hH;rintro _ w ⟨oN,rfl,hH⟩ a hA)|(refine AT ?_;clear hA;rintro _ w ⟨oN,cN,rfl,hH2⟩ a hA;clear hH;have hH:=(hH2 _ (by (repeat constructor))).tail;clear hH2)|(refine S0T ?_;clear hH;rintro _ w hH)))|refine CT ?_|(refine DT ?_ ?_<;>intro hc<;>try (exfalso;omega))|(first|(refine DSK ?_;clear hA a;intro a hA)|(first|(refine DLT ?_;clear hA hH;rintro _ w ⟨oN,rfl,hH⟩;refine ⟨STT,?_⟩;intro a hA)|(refine DAT ?_;clear hA;rintro _ w ⟨oN,cN,rfl,hH2⟩;clear hH;have hH:=(hH2 _ (by (repeat constructor))).tail;clear hH2;refine ⟨STT,?_⟩;intro a hA))))
      rw [hd] at hA
      exact ⟨hH,(hA.sub SBT)⟩
    clear hA hH
    rintro a w ⟨hH,hA⟩
    apply wp_seq
    apply st_cond_t hA rfl
    apply wp_skip
    apply then_normal
    apply wp_seq
    apply wp_block
    apply wp_seq
    apply in_region
    (apply in_ex hA hH rfl rfl (by decide);(apply ex_indexAddr_nat;rfl;rfl;omega;exact hsp);clear hA a;intro a hA)
    (apply in_ex hA hH rfl rfl (by decide);(apply ex_load;rfl;exact cl_rd hR id hv);clear hA a;intro a hA)
    (apply in_ex hA hH rfl rfl (by decide);exact EXT;clear hA a;intro a hA)
    apply in_nil
    apply then_normal
    apply wp_seq
    apply in_region
    (apply in_ex hA hH rfl rfl (by decide);(apply ex_move;rfl);clear hA a;intro a hA)
    (apply in_ex hA hH rfl rfl (by decide);(apply ex_move;rfl);clear hA a;intro a hA)
    (apply in_yield hA (by decide) rfl rfl;exact YieldAt.mono (hY (xs.length - (j+1)) w (by omega) (by rw [show xs.length - (j+1)+1=xs.length - j by omega];exact hH)) (fun e W' ⟨he,h⟩=>(⟨_,he,⟨rfl,h⟩⟩:∃v,e= .returned v∧(v= .bool true∧HS w0 noM (X::Y::its (xs.length - (j+1))) W')));clear hA hH;rintro _ w ⟨rfl,hH⟩ a hA)
    (apply in_ex hA hH rfl rfl (by decide);exact EXT;clear hA a;intro a hA)
    apply in_nil
    repeat' (first|(first|(refine GT ?_ ?_<;>intro hg<;>clear hA a<;>intro a hA<;>(first|exact FA|replace hg:=dTr hg|replace hg:=dFa hg|skip))|(refine QT ?_;clear hA a;intro a hA)|(first|(refine BT ?_;clear hA hH;rintro _ w ⟨bN,rfl,hH⟩ a hA)|(refine LT ?_;clear hA hH;rintro _ w ⟨oN,rfl,hH⟩ a hA)|(refine AT ?_;clear hA;rintro _ w ⟨oN,cN,rfl,hH2⟩ a hA;clear hH;have hH:=(hH2 _ (by (repeat constructor))).tail;clear hH2)|(refine S0T ?_;clear hH;rintro _ w hH)))|refine CT ?_|(refine DT ?_ ?_<;>intro hc<;>try (exfalso;omega))|(first|(refine DSK ?_;clear hA a;intro a hA)|(first|(refine DLT ?_;clear hA hH;rintro _ w ⟨oN,rfl,hH⟩;refine ⟨STT,?_⟩;intro a hA)|(refine DAT ?_;clear hA;rintro _ w ⟨oN,cN,rfl,hH2⟩;clear hH;have hH:=(hH2 _ (by (repeat constructor))).tail;clear hH2;refine ⟨STT,?_⟩;intro a hA))))
    exact ⟨j+1,⟨hlt,hH,(hA.sub SBT)⟩,by omega⟩
  clear hA hH
  rintro a w ⟨hH,hA⟩
  exact rt0 (.inr rfl) rfl hA hH
theorem appseq_spec (w0:World) (q o:Option Addr) (c:Nat) (xs:List Int) (hq:Rd w0 q [.slice o xs.length c]) (hR:Rd w0 o (flat Fw.encI xs)) (hl:xs.length≤1048576) :
    Ret Tryz.prog 79 #[.slice none 0 0,.func (.func 48) #[] #[.pointer (some (sat q 0))]] w0 (fun r w=>∃o c,r= .slice o xs.length c∧HS w0 noM [own 2 1 o xs.length c (flat Fw.encI xs)] w):=by
  have hH:HS w0 noM [] w0:=HS.init w0 noM
  (refine enterM (N:=13) Tryz.func79 rfl Tryz.ntmps79 rfl ?_;intro a hA;dsimp only [sl0,Nat.reduceAdd] at hA)
  repeat' (first|(first|(refine GT ?_ ?_<;>intro hg<;>clear hA a<;>intro a hA<;>(first|exact FA|replace hg:=dTr hg|replace hg:=dFa hg|skip))|(refine QT ?_;clear hA a;intro a hA)|(first|(refine BT ?_;clear hA hH;rintro _ w ⟨bN,rfl,hH⟩ a hA)|(refine LT ?_;clear hA hH;rintro _ w ⟨oN,rfl,hH⟩ a hA)|(refine AT ?_;clear hA;rintro _ w ⟨oN,cN,rfl,hH2⟩ a hA;clear hH;have hH:=(hH2 _ (by (repeat constructor))).tail;clear hH2)|(refine S0T ?_;clear hH;rintro _ w hH)))|refine CT ?_|(refine DT ?_ ?_<;>intro hc<;>try (exfalso;omega))|(first|(refine DSK ?_;clear hA a;intro a hA)|(first|(refine DLT ?_;clear hA hH;rintro _ w ⟨oN,rfl,hH⟩;refine ⟨STT,?_⟩;intro a hA)|(refine DAT ?_;clear hA;rintro _ w ⟨oN,cN,rfl,hH2⟩;clear hH;have hH:=(hH2 _ (by (repeat constructor))).tail;clear hH2;refine ⟨STT,?_⟩;intro a hA))))
  obtain ⟨bS,hbS⟩:∃x,x=bN:=⟨_,rfl⟩
  rw [←hbS] at hA hH
  clear hbS bN
  have h0:HS w0 noM ((fun j=>[exI fun p:Option Addr × Nat=>all [cb bS 38 [.slice p.1 (xs.length - j) p.2],own 2 1 p.1 (xs.length - j) p.2 (flat Fw.encI (xs.take (xs.length - j)))]]) xs.length) w:=by
    refine HS.exI_shut (x:=(none,0)) (HS.shut ?_)
    rw [Nat.sub_self,List.take_zero]
    exact (hH.nil_flat Fw.encI _ 1).perm PMT
  refine wp_range (gf:=48) (lb:=#[.pointer (some (sat q 0))]) (fun j=>[exI fun p:Option Addr × Nat=>all [cb bS 38 [.slice p.1 (xs.length - j) p.2],own 2 1 p.1 (xs.length - j) p.2 (flat Fw.encI (xs.take (xs.length - j)))]]) (fun i=>#[.int .i64 (bk xs i)]) xs.length hA rfl (fun _=>rfl) h0 (fun l X Y W hY hW=>vals_spec w0 q o c xs (fun j=>[exI fun p:Option Addr × Nat=>all [cb bS 38 [.slice p.1 (xs.length - j) p.2],own 2 1 p.1 (xs.length - j) p.2 (flat Fw.encI (xs.take (xs.length - j)))]]) hq hR hl l X Y W hY hW) ?_ ?_
  · clear hH h0
    rintro l X Y i W hi hH
    have hA0:=rd_slots1 (p:=7) (v1:=.int .i64 (bk xs i)) hA (by decide)
    clear hA
    generalize ({tmps:=_,defers:=[]}:Act)=a0 at hA0 ⊢
    rename _=>hA
    refine rd_region rfl ?_
    repeat' (first|(first|(refine GT ?_ ?_<;>intro hg<;>clear hA a<;>intro a hA<;>(first|exact FA|replace hg:=dTr hg|replace hg:=dFa hg|skip))|(refine QT ?_;clear hA a;intro a hA)|(first|(refine BT ?_;clear hA hH;rintro _ w ⟨bN,rfl,hH⟩ a hA)|(refine LT ?_;clear hA hH;rintro _ w ⟨oN,rfl,hH⟩ a hA)|(refine AT ?_;clear hA;rintro _ w ⟨oN,cN,rfl,hH2⟩ a hA;clear hH;have hH:=(hH2 _ (by (repeat constructor))).tail;clear hH2)|(refine S0T ?_;clear hH;rintro _ w hH)))|refine CT ?_|(refine DT ?_ ?_<;>intro hc<;>try (exfalso;omega))|(first|(refine DSK ?_;clear hA a;intro a hA)|(first|(refine DLT ?_;clear hA hH;rintro _ w ⟨oN,rfl,hH⟩;refine ⟨STT,?_⟩;intro a hA)|(refine DAT ?_;clear hA;rintro _ w ⟨oN,cN,rfl,hH2⟩;clear hH;have hH:=(hH2 _ (by (repeat constructor))).tail;clear hH2;refine ⟨STT,?_⟩;intro a hA))))
    refine ⟨_,hH,fun X' W2 hH=>?_⟩
    apply wpIn_block
    refine rd_region rfl ?_
    replace hH:=hH.up 2 rfl
    dsimp only [List.eraseIdx_cons_succ,List.eraseIdx_cons_zero] at hH
    obtain ⟨⟨oS,cS⟩,hH1⟩:=hH.exI_open
    clear hH
    have hH:=hH1.open_
    clear hH1
    have ej:xs.length - i=xs.length - (i+1)+1:=by omega
    have hx:=bk_at (xs:=xs) (j:=xs.length - (i+1)) (by omega)
    rw [show xs.length - (xs.length - (i+1)+1)=i by omega] at hx
    obtain ⟨j,hj⟩:∃j,j=xs.length - (i+1):=⟨_,rfl⟩
    rw [←hj] at hH hx ej
    have hjl:j<xs.length:=by omega
    repeat' (first|(first|(refine GT ?_ ?_<;>intro hg<;>clear hA a<;>intro a hA<;>(first|exact FA|replace hg:=dTr hg|replace hg:=dFa hg|skip))|(refine QT ?_;clear hA a;intro a hA)|(first|(refine BT ?_;clear hA hH;rintro _ w ⟨bN,rfl,hH⟩ a hA)|(refine LT ?_;clear hA hH;rintro _ w ⟨oN,rfl,hH⟩ a hA)|(refine AT ?_;clear hA;rintro _ w ⟨oN,cN,rfl,hH2⟩ a hA;clear hH;have hH:=(hH2 _ (by (repeat constructor))).tail;clear hH2)|(refine S0T ?_;clear hH;rintro _ w hH)))|refine CT ?_|(refine DT ?_ ?_<;>intro hc<;>try (exfalso;omega))|(first|(refine DSK ?_;clear hA a;intro a hA)|(first|(refine DLT ?_;clear hA hH;rintro _ w ⟨oN,rfl,hH⟩;refine ⟨STT,?_⟩;intro a hA)|(refine DAT ?_;clear hA;rintro _ w ⟨oN,cN,rfl,hH2⟩;clear hH;have hH:=(hH2 _ (by (repeat constructor))).tail;clear hH2;refine ⟨STT,?_⟩;intro a hA))))
    rw [←flat_take hx] at hH
    have h2:HS w0 noM ((fun j=>[exI fun p:Option Addr × Nat=>all [cb bS 38 [.slice p.1 (xs.length - j) p.2],own 2 1 p.1 (xs.length - j) p.2 (flat Fw.encI (xs.take (xs.length - j)))]]) i++[X',Y]) w:=by
      refine HS.exI_shut (oN,cN) (HS.shut ?_)
      rw [ej]
      exact hH
    exact h2.perm PMT
  · clear hA hH h0
    intro D a w hA hH
    replace hH:=hH.up 1 rfl
    dsimp only [List.eraseIdx_cons_succ,List.eraseIdx_cons_zero] at hH
    obtain ⟨⟨oS,cS⟩,hH1⟩:=hH.exI_open
    clear hH
    have hH:=hH1.open_
    clear hH1
    rw [Nat.sub_zero,List.take_length] at hH
    repeat' (first|(first|(refine GT ?_ ?_<;>intro hg<;>clear hA a<;>intro a hA<;>(first|exact FA|replace hg:=dTr hg|replace hg:=dFa hg|skip))|(refine QT ?_;clear hA a;intro a hA)|(first|(refine BT ?_;clear hA hH;rintro _ w ⟨bN,rfl,hH⟩ a hA)|(refine LT ?_;clear hA hH;rintro _ w ⟨oN,rfl,hH⟩ a hA)|(refine AT ?_;clear hA;rintro _ w ⟨oN,cN,rfl,hH2⟩ a hA;clear hH;have hH:=(hH2 _ (by (repeat constructor))).tail;clear hH2)|(refine S0T ?_;clear hH;rintro _ w hH)))|refine CT ?_|(refine DT ?_ ?_<;>intro hc<;>try (exfalso;omega))|(first|(refine DSK ?_;clear hA a;intro a hA)|(first|(refine DLT ?_;clear hA hH;rintro _ w ⟨oN,rfl,hH⟩;refine ⟨STT,?_⟩;intro a hA)|(refine DAT ?_;clear hA;rintro _ w ⟨oN,cN,rfl,hH2⟩;clear hH;have hH:=(hH2 _ (by (repeat constructor))).tail;clear hH2;refine ⟨STT,?_⟩;intro a hA))))
    refine rt1M (L:=[D]) (.inl rfl) rfl hA rfl (HS.shut (L:=[dfi D]) (hH.perm PMT)) fun w h=>⟨oS,cS,rfl,?_⟩
    exact (h.up 1 rfl).head
end
end Go.Proofs.YtbapejgbjpcadaaGreatDoor
namespace Go.Xc
open Go Go.RowKit Go.Fw
set_option linter.unusedVariables false
def i64s:List LV→Option (List Int)
  | []=>some []
  | .I .i64 z::r=>match i64s r with
    |some l=>some (z::l)
    |none=>none
  |_=>none
theorem i64s_val (e:En):∀{cs:List LV} {l:List Int},i64s cs=some l→LV.vals e cs=flat Fw.encI l∧cs.length=l.length∧LV.bds 0 cs
  | [],l,h=>by cases h;exact ⟨rfl,rfl,trivial⟩
  | c ::cs,l,h=>by
    unfold i64s at h
    split at h
    · rename_i h1;cases h1
    · rename_i z r h1
      cases h1
      split at h
      · rename_i l' hl
        cases h
        obtain ⟨g1,g2,g3⟩:=i64s_val e hl
        exact ⟨by rw [LV.vals,g1];rfl,by rw [List.length_cons,g2,List.length_cons],⟨trivial,g3⟩⟩
      · cases h
    · cases h
def gApp (kv T:Nat) (args:List LV) (h:Tr LB) (n:Nat):Option R1:=match args with
  | [.L0,.F (.func k) [] [.P q o]]=>match rdC h q o 1 with
    | some [.L b p m c]=>match rdC h b p (m*1) with
      | some cs=>match i64s cs with
        |some l=>ck (Nat.beq k kv && Nat.blt 0 m && Nat.ble m 1048576) (newB h n (.G T 1 cs) (.L n 0 m (.U 0)) (bitM q ||| bitM b) 0)
        |none=>none
      |none=>none
    |_=>none
  |_=>none
theorem own_one {w0 w:World} {T sz:Nat} {o:Option Addr} {m c:Nat} {xs:List Value} (h:HS w0 noM [own T sz o m c xs] w) (hm:0<m) :
    ∃b sp,o=some ⟨b,0,none⟩∧w0.heap.size≤b∧m≤c∧c≤maxLen∧xs.length+sp.length=c*sz∧w.heap[b]?=some (.cells (xs++sp).toArray T (0,0)):=by
  obtain ⟨hk,F,⟨F1,F2,hF,hd,hs,_⟩,ho⟩:=h
  rcases hs with ⟨_,h1,_⟩| ⟨b,sp,h1,h2,h3,h4,h5,h6,h7⟩
  · omega
  · exact ⟨b,sp,h1,(ho b ((hF b).2 (.inl ((h2 b).2 rfl)))).resolve_right id,h4,h5,h6,h7⟩
end Go.Xc
namespace Go.Proofs.YtbapejgbjpcadaaGreatDoor
open Go Go.Fw Go.Xc
set_option linter.unusedVariables false
theorem gApp_ok {args:List LV} {h:Tr LB} {n:Nat} {q:R1} (hq:gApp 48 2 args h n=some q) (hB:HB n h) (hb:LV.bds n args) :
    ∃v,q.v=some v∧CallU Tryz.prog 79 args h n ⟨.r,.e,v,q.h,q.n,q.fp,q.wm⟩:=by
  unfold gApp at hq
  split at hq
  · rename_i k pq po
    split at hq
    · rename_i b p m c hr1
      split at hq
      · rename_i cs hr2
        split at hq
        · rename_i l hl
          obtain ⟨hc,hq1⟩:=ck_some hq
          obtain ⟨hc,hc3⟩:=(Bool.and_eq_true _ _).mp hc
          obtain ⟨hc1,hc2⟩:=(Bool.and_eq_true _ _).mp hc
          obtain rfl:=Nat.eq_of_beq_eq_true hc1
          rw [blt_eq] at hc2
          have hc2:=dTr hc2
          have hc3:=Nat.le_of_ble_eq_true hc3
          obtain ⟨hn,rfl⟩:=newB_some hq1
          have hcb:=rdC_bd hB hr2
          have hlen:cs.length=m:=by have:=(rdC_some hr2).choose_spec.2.2;omega
          refine ⟨_,rfl,⟨(FnB.eq (P:=Tryz.prog) (k:=79)),dd_new hn hcb.1,(by simp only [LV.bd];exact Nat.lt_succ_self n),fun w vs ⟨e0,hv0,hg0⟩=>?_⟩⟩
          subst hv0
          have hgl:∀e,GdF e n (bitM pq ||| bitM b ||| bitM n) h w→Rd w (some ⟨e.ρ pq,po,none⟩) [.slice (some ⟨e.ρ b,p,none⟩) l.length (c.val e b)]∧Rd w (some ⟨e.ρ b,p,none⟩) (flat Fw.encI l):=by
            intro e hg
            obtain ⟨g1,g2,_⟩:=i64s_val e hl
            have hp:=rdC_cls hg ⟨(rdC_bd hB hr1).2,(bt_or _ _ _).2 (.inl ((bt_or _ _ _).2 (.inl ((bt_bitM pq pq).2 rfl))))⟩ hr1
            have hs:=rdC_cls hg ⟨hcb.2,(bt_or _ _ _).2 (.inl ((bt_or _ _ _).2 (.inr ((bt_bitM b b).2 rfl))))⟩ hr2
            rw [g1] at hs
            refine ⟨⟨fun _=>⟨_,_,rfl⟩,fun j u hu=>?_⟩,⟨fun _=>⟨_,_,rfl⟩,fun j u hu=>?_⟩⟩
            · have h1:=hp j u (by rw [←g2,hlen] at hu;simpa only [LV.vals,LV.val] using hu)
              rw [addr_add] at h1
              exact h1
            · have h1:=hs j u hu
              rw [addr_add] at h1
              exact h1
          obtain ⟨hq0,hs0⟩:=hgl e0 hg0
          have hm:l.length=m:=by rw [←(i64s_val e0 hl).2.1];exact hlen
          have hspec:=appseq_spec w (some ⟨e0.ρ pq,po,none⟩) (some ⟨e0.ρ b,p,none⟩) (c.val e0 b) l hq0 hs0 (by omega)
          have ha:(LV.vals e0 [.L0,.F (.func 48) [] [.P pq po]]).toArray=#[.slice none 0 0,.func (.func 48) #[] #[.pointer (some (sat (some ⟨e0.ρ pq,po,none⟩) 0))]]:=by
            simp only [LV.vals,LV.val]
            rfl
          rw [ha]
          refine Ret.mono hspec fun u w' ⟨o',c',hu,hH⟩=>?_
          obtain ⟨r0,sp,h1,h2,h3,h4,h5,h6⟩:=own_one hH (by omega)
          subst h1
          refine ⟨e0.add n r0 c',fun e hv hg=>?_⟩
          have hs:LB.sat (e.add n r0 c') w' n (.G 2 1 cs):=by
            obtain ⟨g1,g2,_⟩:=i64s_val (e.add n r0 c') hl
            simp only [LB.sat]
            rw [En.add_ρ,En.add_κ,g1]
            exact ⟨sp,h6,h5,h4,l.length,by rw [g2,Nat.mul_one],h3⟩
          have hag:Ag (n+1) (e.add n r0 c') (e.ext n (e0.add n r0 c')):=by
            refine ⟨fun i hi=>?_,fun i hi=>?_⟩
            · by_cases hin:i<n
              · rw [(En.ext_ag e n _).ρ i hin,(En.add_ag e n r0 c').ρ i hin]
              · obtain rfl:i=n:=by omega
                simp only [En.ext,if_neg hin,En.add_ρ]
            · by_cases hin:i<n
              · rw [(En.ext_ag e n _).κ i hin,(En.add_ag e n r0 c').κ i hin]
              · obtain rfl:i=n:=by omega
                simp only [En.ext,if_neg hin,En.add_κ]
          refine ⟨(tk_newr hB hn h2 hg hH.kp hs).re (dd_new hn hcb.1) hB hag,?_⟩
          rw [LV.val_ag hag _ (by simp only [LV.bd];exact Nat.lt_succ_self n),hu]
          simp only [LV.val,Cp.val,En.add_ρ,En.add_κ,Nat.sub_zero,hm]
        · cases hq
      · cases hq
    · cases hq
  · cases hq
theorem xc_fns:fnsOk [] Tryz.prog.funcs.toList 0=true:=by decide +kernel
theorem xc_out:Out3 Tryz.prog 41:=by
  have hst:(match Tryz.prog.underlying 41 with|some (.struct _)=>true|_=>false)=true:=by decide +kernel
  refine ⟨⟨3,9,9,by decide +kernel,TIn.eq (t:=3),TSr.eq (t:=9),TSr.eq (t:=9),by decide +kernel,by decide +kernel,by decide +kernel⟩,by decide +kernel,by decide +kernel,?_⟩
  unfold Program.fieldsOf
  cases hu:Tryz.prog.underlying 41 with
  |none=>rw [hu] at hst;cases hst
  |some d=>cases d<;>rw [hu] at hst<;>first|rfl|cases hst
def xcO (k:Nat):Option (List LV→Tr LB→Nat→Option R1):=bif Nat.beq k 79 then some (gApp 48 2) else none
noncomputable def xcX:Ctx:=ctxP Tryz.prog [] 41 xcO
theorem xc_ok:CtxOkC Tryz.prog xcX:=ctxP_ok (by decide +kernel) xc_fns xc_out fun k g h args w n q hq hB hb=>by
  unfold xcO at h
  cases hk:Nat.beq k 79 with
  |false=>rw [hk,cond_false] at h;cases h
  | true=>
    rw [hk,cond_true] at h
    cases h
    rw [Nat.eq_of_beq_eq_true hk]
    exact gApp_ok hq hB hb
def okT (r:Option Rs):Bool:=match r with
  | some r=>match r.v with
    | .B true=>true
    |_=>false
  |none=>false
set_option maxRecDepth 100000 in
theorem xc_run:okT (go xcX 100000 (.call 5 []) .e 0)=true:=by decide +kernel
theorem xc_awake (w:World):Ret Tryz.prog 5 #[] w (fun r w'=>r= .bool true∧Kp w noM w'):=by
  have h:=xc_run
  unfold okT at h
  cases hg:go xcX 100000 (.call 5 []) .e 0 with
  |none=>rw [hg] at h;cases h
  | some r=>
    rw [hg] at h
    obtain ⟨x,s,v,h',n',f,m⟩:=r
    refine Ret.mono (run_ok xc_ok hg w) fun u w' ⟨⟨e,he⟩,hk⟩=>⟨?_,hk⟩
    rw [he]
    simp only at h
    cases v with
    |B x=>cases x<;>first|rfl|cases h
    |_=>cases h
open Go Go.Fw
theorem bulk_pos {H:Type} (d:DataW H):1≤Rows.uptoBulk d:=by
  cases d with
  |lit l=>cases l<;>simp [Rows.uptoBulk]
  |_=>simp [Rows.uptoBulk]
theorem bulk_mem {H:Type} {d:DataW H}:∀{l:List (DataW H)},d∈l→Rows.uptoBulk d≤Rows.uptoBulkAll l
  | x::l,h=>by
    rw [Rows.uptoBulkAll]
    rcases List.mem_cons.1 h with rfl|h
    · omega
    · have:=bulk_mem h;omega
theorem bulk_len {H:Type}:∀(l:List (DataW H)),l.length≤Rows.uptoBulkAll l
  | []=>Nat.zero_le _
  | x::l=>by
    rw [Rows.uptoBulkAll,List.length_cons]
    have:=bulk_pos x
    have:=bulk_len l
    omega
theorem bulk_of {H:Type} {ds:List (DataW H)} {d:DataW H} (hk:∃gs,Rows.uptoSmall H (ds++gs)=true) (hd:d∈ds):Rows.uptoBulk d≤1048576:=by
  obtain ⟨gs,hk⟩:=hk
  have h:Rows.uptoBulkAll (ds++gs)≤1048576:=dTr hk
  have:=bulk_mem (List.mem_append_left gs hd)
  omega
theorem bulk_slice {H:Type} {elems rest:List (DataW H)}:elems.length≤Rows.uptoBulk (.slice elems rest):=by
  rw [Rows.uptoBulk]
  have:=bulk_len elems
  omega
end Go.Proofs.YtbapejgbjpcadaaGreatDoor
