/-
  ssa.Of at no function, and at one that returns five. Conditions: none.
  What comes of awake's graphs (plain). Conditions: none.
  Two outcomes are alike. Conditions: none.
  The law's awake: its graphs. Conditions: none.
  The law's large, begins; two runs. Conditions: none.
  Other names for variables: the law's higher, other. Conditions: none.
  Graphs under other names (plain): the words. Conditions: none.
  The document's check of graphs: atoms. Conditions: none.
  The document's check of graphs: a graph's shape. Conditions: none.
  The document's check of graphs: numbers, steps, ends. Conditions: none.
-/
import Derived.Test.YtenlcdokaadobaaGreatDoorRowRunsMg11
import Derived.Test.YtenlcdokaadobaaGreatDoorRowRunsMg7
import Derived.Test.YtenlcdokaadobaaGreatDoorRowRunsMg8
import Derived.ChangeKeysEq
import Derived.Laws.StructEq
import Derived.Test.YtenlcdokaadobaaGreatDoorRowRunsMg3
set_option maxHeartbeats 64000000
set_option maxRecDepth 10000
namespace Go.Proofs.YtenlcdokaadobaaGreatDoor
open Go Go.Fw
set_option linter.unusedVariables false
def qK:Grs:=⟨yM,yM,yM,yM,yM⟩
theorem flatF0 (o:Option Addr):flat (xR o) []=[]:=rfl
theorem flatF1 (o:Option Addr):flat (xR o) [0]=xR o 0:=by show xR o 0++[]=_;rw [List.append_nil]
theorem eC {α:Type} {w:World} {enc:α→List Value} {o:Option Addr} {c:Nat} {x:α} (h:Rd w o (enc x)) (hc:1≤c∧c≤maxLen):RdV w enc ⟨o,c,[x]⟩:=⟨by show Rd w o (enc x++[]);rw [List.append_nil];exact h,hc.1,hc.2⟩
theorem yX {α:Type} (w:World) (enc:α→List Value):RdV w enc yM:=⟨kW _ _,Nat.le_refl _,Nat.zero_le _⟩
def h5 (oB oA oG o1 o2 o3 o4:Option Addr) (cB cG c1 c2 c3 c4:Nat) (g:Grs):Grs:=⟨⟨oG,cG,[⟨0,⟨oB,cB,[bl5 oA 1 5]⟩⟩]⟩,⟨o1,c1,g.ls.l⟩,⟨o2,c2,g.ts.l⟩,⟨o3,c3,g.xs.l⟩,⟨o4,c4,g.ss.l⟩⟩
theorem h5_rd {w0 w:World} {H:List It} {oB oA oG o1 o2 o3 o4:Option Addr} {cB cG c1 c2 c3 c4:Nat} {g:Grs} (hH:HS w0 noM (own 44 2 oG 1 cG (wE ⟨0,⟨oB,cB,[bl5 oA 1 5]⟩⟩)::own 53 6 oB 1 cB (zL (bl5 oA 1 5))::own 65 2 oA 1 1 (zV ⟨2,5⟩)::own 9 1 o1 g.ls.l.length c1 (flat yQ g.ls.l)::own 9 1 o2 g.ts.l.length c2 (flat yQ g.ts.l)::own 9 1 o3 g.xs.l.length c3 (flat yQ g.xs.l)::own 9 1 o4 g.ss.l.length c4 (flat yQ g.ss.l)::H) w):RdGs w (h5 oB oA oG o1 o2 o3 o4 cB cG c1 c2 c3 c4 g):=by
  have hG:=hH.own_rd (T:=44) (.head _)
  have hGl:=hH.own_le (T:=44) (.head _)
  have hB:=hH.own_rd (T:=53) (.tail _ (.head _))
  have hBl:=hH.own_le (T:=53) (.tail _ (.head _))
  have hA:=hH.own_rd (T:=65) (.tail _ (.tail _ (.head _)))
  have h1:=hH.own_rd (T:=9) (.tail _ (.tail _ (.tail _ (.head _))))
  have h1l:=hH.own_le (T:=9) (.tail _ (.tail _ (.tail _ (.head _))))
  have h2:=hH.own_rd (T:=9) (.tail _ (.tail _ (.tail _ (.tail _ (.head _)))))
  have h2l:=hH.own_le (T:=9) (.tail _ (.tail _ (.tail _ (.tail _ (.head _)))))
  have h3:=hH.own_rd (T:=9) (.tail _ (.tail _ (.tail _ (.tail _ (.tail _ (.head _))))))
  have h3l:=hH.own_le (T:=9) (.tail _ (.tail _ (.tail _ (.tail _ (.tail _ (.head _))))))
  have h4:=hH.own_rd (T:=9) (.tail _ (.tail _ (.tail _ (.tail _ (.tail _ (.tail _ (.head _)))))))
  have h4l:=hH.own_le (T:=9) (.tail _ (.tail _ (.tail _ (.tail _ (.tail _ (.tail _ (.head _)))))))
  refine ⟨eC hG hGl,fun x hx=>?_,⟨h1,h1l⟩,⟨h2,h2l⟩,⟨h3,h3l⟩,⟨h4,h4l⟩⟩
  obtain rfl:=List.mem_singleton.1 hx
  refine ⟨eC hB hBl,fun b hb=>?_⟩
  obtain rfl:=List.mem_singleton.1 hb
  exact ⟨yX _ _,yX _ _,fun i hi=>absurd hi (List.not_mem_nil),eC hA ⟨Nat.le_refl _,by decide⟩,yX _ _,yX _ _,fun x hx=>absurd hx (List.not_mem_nil)⟩
section
attribute [local irreducible] Code.wp wpList Calls Ex Op1 sat bat blk cb own Go.Fw.mp Go.Fw.mpO Go.Fw.mpI Go.Fw.mpE Go.Fw.itr HS Rd Ret wkD Hp Cl Cls Exit.then Exit.inBlock Exit.noGoto bodyPost Go.Fw.flat wk2 Go.Fw.all Go.Fw.owns wpOp
attribute [local irreducible] sk mpK sko mvO xM opM Go.Fw.mset Go.Fw.mv opK

theorem of0_spec (w0:World) (g:Grs) (hg:g.fs.l=[]) (hls:RdV w0 yQ g.ls) (hts:RdV w0 yQ g.ts) (hxs:RdV w0 yQ g.xs) (hss:RdV w0 yQ g.ss) (o:Option Addr) (hr:Rd w0 o (zV at5)) :
    Ret Tryz.prog 17 #[.agg (xF none 0 0 g).toArray] w0 (fun r w=>r= .tuple #[.agg (zZ qK).toArray,.int .i64 5]∧Kp w0 noM w):=by
  have hH:HS w0 noM [] w0:=HS.init w0 noM
  have hno:¬AnfP [] g:=fun h=>absurd h.pos (by decide)
  (refine ENT (N:=44) Tryz.func17 Tryz.ntmps17 ?_;intro a hA)
  repeat' (first|(refine XT ?_;apply XE;(first|(apply zA (vs:=xF none 0 0 g);rfl;rfl;exact zD MEMT));clear hA a;intro a hA)|(refine QT ?_;clear hA a;intro a hA)|(refine BT ?_;clear hA hH;rintro _ w ⟨bN,rfl,hH⟩ a hA)|refine CT ?_|fail)
  (refine zJ hA rfl rfl (by decide) (zE rfl rfl rfl (mG _ none 0 [] o g (by rw [flatF0];exact kW _ _) (hH.rd hr id) (by decide) (hls.keep hH.kp) (hts.keep hH.kp) (hxs.keep hH.kp) (hss.keep hH.kp))) ?_;clear hA;rintro _ w ⟨b,rfl,hb,hk⟩ a hA;replace hH:=hH.keep hk;clear hk)
  obtain rfl:b=false:=by
    cases b with
    |false=>rfl
    |true=>exact absurd (hb.1 rfl) hno
  repeat' (first|(refine XT ?_;apply XE;(first|(apply zK (cs:=(zZ qK).toArray);rfl;exact FLT;rfl));clear hA a;intro a hA)|(refine QT ?_;clear hA a;intro a hA)|(refine SAT (zZ qK) hA hH ?_;clear hH;intro w hH)|refine CT ?_|fail)
  exact wB (vs:=zZ qK) (.inl rfl) rfl hA rfl rfl rfl hH (zD (by exact MEMT)) ⟨rfl,hH.kp⟩
theorem of1_spec (w0:World) (g:Grs) (oF o:Option Addr) (cF:Nat) (hF:Rd w0 oF (xR o 0)) (hr:Rd w0 o (zV at5)) (hls:RdV w0 yQ g.ls) (hts:RdV w0 yQ g.ts) (hxs:RdV w0 yQ g.xs) (hss:RdV w0 yQ g.ss)
    (hx:g.xs.l=xs4) (hl:g.ls.l=[]) (ht:g.ts.l=[]) (hs:g.ss.l=[]) :
    Ret Tryz.prog 17 #[.agg (xF oF 1 cF g).toArray] w0 (fun r w=>∃oB oA oG o1 o2 o3 o4 cB cG c1 c2 c3 c4,r= .tuple #[.agg (zZ (h5 oB oA oG o1 o2 o3 o4 cB cG c1 c2 c3 c4 g)).toArray,.int .i64 0]∧HS w0 noM (own 44 2 oG 1 cG (wE ⟨0,⟨oB,cB,[bl5 oA 1 5]⟩⟩)::own 53 6 oB 1 cB (zL (bl5 oA 1 5))::own 65 2 oA 1 1 (zV ⟨2,5⟩)::own 9 1 o1 g.ls.l.length c1 (flat yQ g.ls.l)::own 9 1 o2 g.ts.l.length c2 (flat yQ g.ts.l)::own 9 1 o3 g.xs.l.length c3 (flat yQ g.xs.l)::own 9 1 o4 g.ss.l.length c4 (flat yQ g.ss.l)::[]) w):=by
  have hH:HS w0 noM [] w0:=HS.init w0 noM
  have hyes:AnfP [0] g:=anf4 hx hl ht hs
  have e1:=flatF1 o
  (refine ENT (N:=44) Tryz.func17 Tryz.ntmps17 ?_;intro a hA)
  repeat' (first|(refine XT ?_;apply XE;(first|(apply zA (vs:=xF oF 1 cF g);rfl;rfl;exact zD MEMT));clear hA a;intro a hA)|(refine QT ?_;clear hA a;intro a hA)|(refine BT ?_;clear hA hH;rintro _ w ⟨bN,rfl,hH⟩ a hA)|refine CT ?_|fail)
  (refine zJ hA rfl rfl (by decide) (zE rfl rfl rfl (mG _ oF cF [0] o g (by rw [e1];exact hH.rd hF id) (hH.rd hr id) (by decide) (hls.keep hH.kp) (hts.keep hH.kp) (hxs.keep hH.kp) (hss.keep hH.kp))) ?_;clear hA;rintro _ w ⟨b,rfl,hb,hk⟩ a hA;replace hH:=hH.keep hk;clear hk)
  obtain rfl:b=true:=hb.2 hyes
  have key:∃b1 b2,HS w0 noM (cb b1 34 (xF oF 1 cF g)::cb b2 25 (zZ qK)::[]) w∧Sl 44 [(8,.bool true),(2,.pointer (some (bat b2 0))),(1,.pointer (some (bat b1 0))),(3,.int .i64 0)] a:=⟨_,_,hH.perm PMT,(hA.sub SBT)⟩
  clear hA hH
  obtain ⟨b1,b2,hH,hA⟩:=key
  repeat' (first|(refine QT ?_;clear hA a;intro a hA)|refine CT ?_|fail)
  have hST:HS w0 noM [cb b1 34 (xF oF 1 cF g)] w:=HS.left (H1:=[_]) hH
  refine xO (qs [0,1,3,4,6,7,9,10] (.two 2 13 (.two 5 13 (.two 8 13 (.two 11 13 (.q 12 (.one 13 (.one 14 .nil))) (.one 11 (.q 12 (.one 14 .nil)))) (.one 8 (.one 11 (.q 12 (.one 14 .nil))))) (.one 5 (.one 8 (.one 11 (.q 12 (.one 14 .nil)))))) (.one 2 (.one 5 (.one 8 (.one 11 (.q 12 (.one 14 .nil)))))))) (fun a w=>∃b4 o1 o2 o3 o4 c1 c2 c3 c4,HS w0 noM (cb b4 25 [.slice none 0 0,.slice o1 g.ls.l.length c1,.slice o2 g.ts.l.length c2,.slice o3 g.xs.l.length c3,.slice o4 g.ss.l.length c4]::own 9 1 o1 g.ls.l.length c1 (flat yQ g.ls.l)::own 9 1 o2 g.ts.l.length c2 (flat yQ g.ts.l)::own 9 1 o3 g.xs.l.length c3 (flat yQ g.xs.l)::own 9 1 o4 g.ss.l.length c4 (flat yQ g.ss.l)::cb b1 34 (xF oF 1 cF g)::cb b2 25 (zZ qK)::[]) w∧Sl 44 [(4,.pointer (some (bat b4 0))),(2,.pointer (some (bat b2 0))),(1,.pointer (some (bat b1 0))),(3,.int .i64 0)] a) mixed (by decide +kernel) hST ?_ ?_
  · clear hST
    replace hH:=hH.drew
    (repeat (apply yN hA rfl rfl rfl (by decide);(first|exact EXT|exact EXT2);clear hA a;intro a hA))
    apply uP
    rotate_left
    · (apply yT hA rfl rfl rfl (by decide);apply yV;exact hH;clear hA hH;rintro _ w ⟨bN,rfl,hH⟩;refine ⟨hH.pick (by exact MEMT),?_⟩;intro a hA)
      (refine yT hA rfl rfl rfl (by decide) (zE rfl rfl rfl (xU _ g.ls (hls.keep hH.kp) (by rw [hl];decide))) ?_;clear hA;rintro _ w ⟨o1,c1,rfl,hj⟩;replace hH:=hH.join hj;clear hj;refine ⟨hH.pick (by exact MEMT),?_⟩;intro a hA)
      (refine yT hA rfl rfl rfl (by decide) (zE rfl rfl rfl (xU _ g.ts (hts.keep hH.kp) (by rw [ht];decide))) ?_;clear hA;rintro _ w ⟨o2,c2,rfl,hj⟩;replace hH:=hH.join hj;clear hj;refine ⟨hH.pick (by exact MEMT),?_⟩;intro a hA)
      (refine yT hA rfl rfl rfl (by decide) (zE rfl rfl rfl (xU _ g.xs (hxs.keep hH.kp) (by rw [hx];decide))) ?_;clear hA;rintro _ w ⟨o3,c3,rfl,hj⟩;replace hH:=hH.join hj;clear hj;refine ⟨hH.pick (by exact MEMT),?_⟩;intro a hA)
      (refine yT hA rfl rfl rfl (by decide) (zE rfl rfl rfl (xU _ g.ss (hss.keep hH.kp) (by rw [hs];decide))) ?_;clear hA;rintro _ w ⟨o4,c4,rfl,hj⟩;replace hH:=hH.join hj;clear hj;refine ⟨hH.pick (by exact MEMT),?_⟩;intro a hA)
      (repeat (apply yN hA rfl rfl rfl (by decide);(first|exact EXT|exact EXT2|(apply zK (cs:=([.slice none 0 0,.slice o1 g.ls.l.length c1,.slice o2 g.ts.l.length c2,.slice o3 g.xs.l.length c3,.slice o4 g.ss.l.length c4]).toArray);rfl;exact FLT;rfl));clear hA a;intro a hA))
      (apply yR hA rfl rfl rfl;apply zI (vs:=[.slice none 0 0,.slice o1 g.ls.l.length c1,.slice o2 g.ts.l.length c2,.slice o3 g.xs.l.length c3,.slice o4 g.ss.l.length c4]);rfl;rfl;exact hH;(repeat constructor);(repeat rfl);clear hH;rintro _ w hH;refine ⟨hH.pick (by exact MEMT),?_⟩;apply xG)
      exact ⟨_,o1,o2,o3,o4,c1,c2,c3,c4,hH.perm PMT,(hA.sub SBT)⟩
    (refine yT hA rfl rfl rfl (by decide) (zE rfl rfl rfl (xU _ g.ls (hls.keep hH.kp) (by rw [hl];decide))) ?_;clear hA;rintro _ w ⟨o1,c1,rfl,hj⟩;replace hH:=hH.join hj;clear hj;refine ⟨hH.pick (by exact MEMT),?_⟩;intro a hA)
    apply uP
    rotate_left
    · (apply yT hA rfl rfl rfl (by decide);apply yV;exact hH;clear hA hH;rintro _ w ⟨bN,rfl,hH⟩;refine ⟨hH.pick (by exact MEMT),?_⟩;intro a hA)
      (refine yT hA rfl rfl rfl (by decide) (zE rfl rfl rfl (xU _ g.ts (hts.keep hH.kp) (by rw [ht];decide))) ?_;clear hA;rintro _ w ⟨o2,c2,rfl,hj⟩;replace hH:=hH.join hj;clear hj;refine ⟨hH.pick (by exact MEMT),?_⟩;intro a hA)
      (refine yT hA rfl rfl rfl (by decide) (zE rfl rfl rfl (xU _ g.xs (hxs.keep hH.kp) (by rw [hx];decide))) ?_;clear hA;rintro _ w ⟨o3,c3,rfl,hj⟩;replace hH:=hH.join hj;clear hj;refine ⟨hH.pick (by exact MEMT),?_⟩;intro a hA)
      (refine yT hA rfl rfl rfl (by decide) (zE rfl rfl rfl (xU _ g.ss (hss.keep hH.kp) (by rw [hs];decide))) ?_;clear hA;rintro _ w ⟨o4,c4,rfl,hj⟩;replace hH:=hH.join hj;clear hj;refine ⟨hH.pick (by exact MEMT),?_⟩;intro a hA)
      (repeat (apply yN hA rfl rfl rfl (by decide);(first|exact EXT|exact EXT2|(apply zK (cs:=([.slice none 0 0,.slice o1 g.ls.l.length c1,.slice o2 g.ts.l.length c2,.slice o3 g.xs.l.length c3,.slice o4 g.ss.l.length c4]).toArray);rfl;exact FLT;rfl));clear hA a;intro a hA))
      (apply yR hA rfl rfl rfl;apply zI (vs:=[.slice none 0 0,.slice o1 g.ls.l.length c1,.slice o2 g.ts.l.length c2,.slice o3 g.xs.l.length c3,.slice o4 g.ss.l.length c4]);rfl;rfl;exact hH;(repeat constructor);(repeat rfl);clear hH;rintro _ w hH;refine ⟨hH.pick (by exact MEMT),?_⟩;apply xG)
      exact ⟨_,o1,o2,o3,o4,c1,c2,c3,c4,hH.perm PMT,(hA.sub SBT)⟩
    (refine yT hA rfl rfl rfl (by decide) (zE rfl rfl rfl (xU _ g.ts (hts.keep hH.kp) (by rw [ht];decide))) ?_;clear hA;rintro _ w ⟨o2,c2,rfl,hj⟩;replace hH:=hH.join hj;clear hj;refine ⟨hH.pick (by exact MEMT),?_⟩;intro a hA)
    apply uP
    rotate_left
    · (apply yT hA rfl rfl rfl (by decide);apply yV;exact hH;clear hA hH;rintro _ w ⟨bN,rfl,hH⟩;refine ⟨hH.pick (by exact MEMT),?_⟩;intro a hA)
      (refine yT hA rfl rfl rfl (by decide) (zE rfl rfl rfl (xU _ g.xs (hxs.keep hH.kp) (by rw [hx];decide))) ?_;clear hA;rintro _ w ⟨o3,c3,rfl,hj⟩;replace hH:=hH.join hj;clear hj;refine ⟨hH.pick (by exact MEMT),?_⟩;intro a hA)
      (refine yT hA rfl rfl rfl (by decide) (zE rfl rfl rfl (xU _ g.ss (hss.keep hH.kp) (by rw [hs];decide))) ?_;clear hA;rintro _ w ⟨o4,c4,rfl,hj⟩;replace hH:=hH.join hj;clear hj;refine ⟨hH.pick (by exact MEMT),?_⟩;intro a hA)
      (repeat (apply yN hA rfl rfl rfl (by decide);(first|exact EXT|exact EXT2|(apply zK (cs:=([.slice none 0 0,.slice o1 g.ls.l.length c1,.slice o2 g.ts.l.length c2,.slice o3 g.xs.l.length c3,.slice o4 g.ss.l.length c4]).toArray);rfl;exact FLT;rfl));clear hA a;intro a hA))
      (apply yR hA rfl rfl rfl;apply zI (vs:=[.slice none 0 0,.slice o1 g.ls.l.length c1,.slice o2 g.ts.l.length c2,.slice o3 g.xs.l.length c3,.slice o4 g.ss.l.length c4]);rfl;rfl;exact hH;(repeat constructor);(repeat rfl);clear hH;rintro _ w hH;refine ⟨hH.pick (by exact MEMT),?_⟩;apply xG)
      exact ⟨_,o1,o2,o3,o4,c1,c2,c3,c4,hH.perm PMT,(hA.sub SBT)⟩
    (refine yT hA rfl rfl rfl (by decide) (zE rfl rfl rfl (xU _ g.xs (hxs.keep hH.kp) (by rw [hx];decide))) ?_;clear hA;rintro _ w ⟨o3,c3,rfl,hj⟩;replace hH:=hH.join hj;clear hj;refine ⟨hH.pick (by exact MEMT),?_⟩;intro a hA)
    apply uP
    rotate_left
    · (apply yT hA rfl rfl rfl (by decide);apply yV;exact hH;clear hA hH;rintro _ w ⟨bN,rfl,hH⟩;refine ⟨hH.pick (by exact MEMT),?_⟩;intro a hA)
      (refine yT hA rfl rfl rfl (by decide) (zE rfl rfl rfl (xU _ g.ss (hss.keep hH.kp) (by rw [hs];decide))) ?_;clear hA;rintro _ w ⟨o4,c4,rfl,hj⟩;replace hH:=hH.join hj;clear hj;refine ⟨hH.pick (by exact MEMT),?_⟩;intro a hA)
      (repeat (apply yN hA rfl rfl rfl (by decide);(first|exact EXT|exact EXT2|(apply zK (cs:=([.slice none 0 0,.slice o1 g.ls.l.length c1,.slice o2 g.ts.l.length c2,.slice o3 g.xs.l.length c3,.slice o4 g.ss.l.length c4]).toArray);rfl;exact FLT;rfl));clear hA a;intro a hA))
      (apply yR hA rfl rfl rfl;apply zI (vs:=[.slice none 0 0,.slice o1 g.ls.l.length c1,.slice o2 g.ts.l.length c2,.slice o3 g.xs.l.length c3,.slice o4 g.ss.l.length c4]);rfl;rfl;exact hH;(repeat constructor);(repeat rfl);clear hH;rintro _ w hH;refine ⟨hH.pick (by exact MEMT),?_⟩;apply xG)
      exact ⟨_,o1,o2,o3,o4,c1,c2,c3,c4,hH.perm PMT,(hA.sub SBT)⟩
    (refine yT hA rfl rfl rfl (by decide) (zE rfl rfl rfl (xU _ g.ss (hss.keep hH.kp) (by rw [hs];decide))) ?_;clear hA;rintro _ w ⟨o4,c4,rfl,hj⟩;replace hH:=hH.join hj;clear hj;refine ⟨hH.pick (by exact MEMT),?_⟩;intro a hA)
    (repeat (apply yN hA rfl rfl rfl (by decide);(first|exact EXT|exact EXT2|(apply zK (cs:=([.slice none 0 0,.slice o1 g.ls.l.length c1,.slice o2 g.ts.l.length c2,.slice o3 g.xs.l.length c3,.slice o4 g.ss.l.length c4]).toArray);rfl;exact FLT;rfl));clear hA a;intro a hA))
    (apply yT hA rfl rfl rfl (by decide);apply yV;exact hH;clear hA hH;rintro _ w ⟨bN,rfl,hH⟩;refine ⟨hH.pick (by exact MEMT),?_⟩;intro a hA)
    (apply yR hA rfl rfl rfl;apply zI (vs:=[.slice none 0 0,.slice o1 g.ls.l.length c1,.slice o2 g.ts.l.length c2,.slice o3 g.xs.l.length c3,.slice o4 g.ss.l.length c4]);rfl;rfl;exact hH;(repeat constructor);(repeat rfl);clear hH;rintro _ w hH;refine ⟨hH.pick (by exact MEMT),?_⟩;apply xG)
    exact ⟨_,o1,o2,o3,o4,c1,c2,c3,c4,hH.perm PMT,(hA.sub SBT)⟩
  clear hA hH hST
  rintro a w ⟨b4,o1,o2,o3,o4,c1,c2,c3,c4,hH,hA⟩
  repeat' (first|(refine QT ?_;clear hA a;intro a hA)|refine CT ?_|fail)
  have hspF:Sp oF 1:=hF.sp (sz:=12) rfl (by omega)
  refine zU (S:=Nat) (fun i a w=>((i=0∧HS w0 noM (cb b4 25 [.slice none 0 0,.slice o1 g.ls.l.length c1,.slice o2 g.ts.l.length c2,.slice o3 g.xs.l.length c3,.slice o4 g.ss.l.length c4]::own 9 1 o1 g.ls.l.length c1 (flat yQ g.ls.l)::own 9 1 o2 g.ts.l.length c2 (flat yQ g.ts.l)::own 9 1 o3 g.xs.l.length c3 (flat yQ g.xs.l)::own 9 1 o4 g.ss.l.length c4 (flat yQ g.ss.l)::cb b1 34 (xF oF 1 cF g)::cb b2 25 (zZ qK)::[]) w)∨(i=1∧∃oB cB oA oG cG,HS w0 noM (cb b4 25 [.slice oG 1 cG,.slice o1 g.ls.l.length c1,.slice o2 g.ts.l.length c2,.slice o3 g.xs.l.length c3,.slice o4 g.ss.l.length c4]::own 44 2 oG 1 cG (wE ⟨0,⟨oB,cB,[bl5 oA 1 5]⟩⟩)::own 53 6 oB 1 cB (zL (bl5 oA 1 5))::own 65 2 oA 1 1 (zV ⟨2,5⟩)::own 9 1 o1 g.ls.l.length c1 (flat yQ g.ls.l)::own 9 1 o2 g.ts.l.length c2 (flat yQ g.ts.l)::own 9 1 o3 g.xs.l.length c3 (flat yQ g.xs.l)::own 9 1 o4 g.ss.l.length c4 (flat yQ g.ss.l)::cb b1 34 (xF oF 1 cF g)::cb b2 25 (zZ qK)::[]) w))∧Sl 44 [(27,.int .i64 i),(26,.int .i64 (1:Nat)),(25,.slice oF 1 cF),(4,.pointer (some (bat b4 0))),(2,.pointer (some (bat b2 0))),(3,.int .i64 0)] a) (fun i=>1 - i)
    (fun a w=>∃oB cB oA oG cG,HS w0 noM (cb b4 25 [.slice oG 1 cG,.slice o1 g.ls.l.length c1,.slice o2 g.ts.l.length c2,.slice o3 g.xs.l.length c3,.slice o4 g.ss.l.length c4]::own 44 2 oG 1 cG (wE ⟨0,⟨oB,cB,[bl5 oA 1 5]⟩⟩)::own 53 6 oB 1 cB (zL (bl5 oA 1 5))::own 65 2 oA 1 1 (zV ⟨2,5⟩)::own 9 1 o1 g.ls.l.length c1 (flat yQ g.ls.l)::own 9 1 o2 g.ts.l.length c2 (flat yQ g.ts.l)::own 9 1 o3 g.xs.l.length c3 (flat yQ g.xs.l)::own 9 1 o4 g.ss.l.length c4 (flat yQ g.ss.l)::cb b1 34 (xF oF 1 cF g)::cb b2 25 (zZ qK)::[]) w∧Sl 44 [(4,.pointer (some (bat b4 0))),(2,.pointer (some (bat b2 0))),(3,.int .i64 0)] a) 0 ⟨.inl ⟨rfl,hH⟩,(hA.sub SBT)⟩ ?_ ?_
  · clear hA hH
    rintro i a w ⟨⟨rfl,hH⟩| ⟨rfl,oB,cB,oA,oG,cG,hH⟩,hA⟩
    rotate_left
    · repeat' (first|(refine QT ?_;clear hA a;intro a hA)|refine CT ?_|fail)
      exact ⟨oB,cB,oA,oG,cG,hH,(hA.sub SBT)⟩
    repeat' (first|(refine XT ?_;apply XE;(first|(apply zB;rfl;rfl;omega;exact hspF)|(apply zA (vs:=xR o 0);rfl;rfl;exact yP hF id (fun i v h=>(by rw [Nat.zero_mul,Nat.zero_add];exact h))));clear hA a;intro a hA)|(refine QT ?_;clear hA a;intro a hA)|(refine BT ?_;clear hA hH;rintro _ w ⟨bN,rfl,hH⟩ a hA)|(refine SAT (xR o 0) hA hH ?_;clear hH;intro w hH)|refine CT ?_|fail)
    obtain ⟨b6,hb6⟩:∃x,x=bN:=⟨_,rfl⟩
    rw [←hb6] at hA hH
    clear hb6 bN
    have hST:HS w0 noM [cb b6 72 (xR o 0),cb b4 25 [.slice none 0 0,.slice o1 g.ls.l.length c1,.slice o2 g.ts.l.length c2,.slice o3 g.xs.l.length c3,.slice o4 g.ss.l.length c4]] w:=HS.left (H1:=[_,_]) hH
    replace hH:=hH.nil_own 44 2
    (refine zN (H:=[_,_]) [(0,1),(1,1),(2,1),(3,0),(4,0),(5,0),(6,1)] [7] mixed (by decide +kernel) (hST) ?_;replace hH:=hH.drew)
    clear hST
    repeat' (first|(refine XT ?_;apply XE;(first|(apply zA (vs:=xR o 0);rfl;rfl;exact zD MEMT));clear hA a;intro a hA)|(refine QT ?_;clear hA a;intro a hA)|fail)
    (refine yC hA rfl rfl rfl (by decide) (zE rfl rfl rfl (aD _ o 5 (hH.rd hr id))) ?_;clear hA;rintro _ w ⟨oB,cB,oA,rfl,hj⟩;replace hH:=hH.join hj;clear hj;refine ⟨HS.left (H1:=[_,_]) hH.tail.tail.tail,?_⟩;intro a hA)
    (apply yC hA rfl rfl rfl (by decide);apply zQ (xs:=wE ⟨0,⟨oB,cB,[bl5 oA 1 5]⟩⟩) (vs:=[.agg (wE ⟨0,⟨oB,cB,[bl5 oA 1 5]⟩⟩).toArray]);rfl;rfl;exact (Cats.cn (cs:=wE ⟨0,⟨oB,cB,[bl5 oA 1 5]⟩⟩) Cats.nil);rfl;rfl;rfl;exact hH;clear hA hH;rintro _ w ⟨oN,rfl,hH⟩;refine ⟨HS.left (H1:=[_,_]) hH.tail.tail.tail.tail,?_⟩;intro a hA)
    (apply yC hA rfl rfl rfl (by decide);apply yE;rfl;rfl;exact hH;exact MEMT;exact (hH.own_rd (List.Mem.head _));exact rfl;rfl;decide;exact rfl;(unfold maxLen;omega);omega;clear hA;rintro _ w ⟨oN,cN,rfl,hH2⟩;clear hH;have hH:=hH2 _ (by (repeat constructor));clear hH2;refine ⟨HS.left (H1:=[_,_]) hH.tail.tail.tail.tail,?_⟩;intro a hA)
    repeat' (first|(refine QT ?_;clear hA a;intro a hA)|(apply yB hA rfl rfl rfl;apply zG (cs':=[.slice oN (0+1) cN,.slice o1 g.ls.l.length c1,.slice o2 g.ts.l.length c2,.slice o3 g.xs.l.length c3,.slice o4 g.ss.l.length c4]);rfl;rfl;rfl;exact hH;(repeat constructor);clear hH;rintro _ w hH)|refine CT ?_|fail)
    exact ⟨1,⟨.inr ⟨rfl,oB,cB,oA,oN,cN,((hH.rm 0).rm 3).perm PMT⟩,(hA.sub SBT)⟩,by omega⟩
  clear hA hH
  rintro a w ⟨oB,cB,oA,oG,cG,hH,hA⟩
  obtain ⟨h,hh⟩:∃h,h=h5 oB oA oG o1 o2 o3 o4 cB cG c1 c2 c3 c4 g:=⟨_,rfl⟩
  have hRh:RdGs w h:=by rw [hh];exact h5_rd (hH.perm (H':=own 44 2 oG 1 cG (wE ⟨0,⟨oB,cB,[bl5 oA 1 5]⟩⟩)::own 53 6 oB 1 cB (zL (bl5 oA 1 5))::own 65 2 oA 1 1 (zV ⟨2,5⟩)::own 9 1 o1 g.ls.l.length c1 (flat yQ g.ls.l)::own 9 1 o2 g.ts.l.length c2 (flat yQ g.ts.l)::own 9 1 o3 g.xs.l.length c3 (flat yQ g.xs.l)::own 9 1 o4 g.ss.l.length c4 (flat yQ g.ss.l)::cb b4 25 [.slice oG 1 cG,.slice o1 g.ls.l.length c1,.slice o2 g.ts.l.length c2,.slice o3 g.xs.l.length c3,.slice o4 g.ss.l.length c4]::cb b1 34 (xF oF 1 cF g)::cb b2 25 (zZ qK)::[]) PMT)
  have hfacts:h.fs=⟨oG,cG,[⟨0,⟨oB,cB,[bl5 oA 1 5]⟩⟩]⟩∧h.xs.l=xs4∧h.ls.l=[]∧h.ts.l=[]∧h.ss.l=[]:=by rw [hh];exact ⟨rfl,hx,hl,ht,hs⟩
  have hmay:MayP h:=may5 (n:=5) (of:=none) (oc:=0) (by decide) (by rw [hfacts.1]) hfacts.2.1 hfacts.2.2.1 hfacts.2.2.2.1 hfacts.2.2.2.2
  have hGh:zZ h=[.slice oG 1 cG,.slice o1 g.ls.l.length c1,.slice o2 g.ts.l.length c2,.slice o3 g.xs.l.length c3,.slice o4 g.ss.l.length c4]:=by rw [hh];rfl
  rw [←hGh] at hH
  repeat' (first|(refine XT ?_;apply XE;(first|(apply zA (vs:=zZ h);rfl;rfl;exact zD MEMT));clear hA a;intro a hA)|(refine QT ?_;clear hA a;intro a hA)|refine CT ?_|fail)
  (refine zJ hA rfl rfl (by decide) (zE rfl rfl rfl (May_spec _ h hRh (by rw [hfacts.1];exact (by decide:1≤100000)) (by
    rw [hfacts.1]
    intro f hf
    obtain rfl:=List.mem_singleton.1 hf
    refine ⟨by show 1≤_;decide,fun bl hb=>?_⟩
    obtain rfl:=List.mem_singleton.1 hb
    show 0≤_;decide))) ?_;clear hA;rintro _ w ⟨b,rfl,hk,hb⟩ a hA;replace hH:=hH.keep hk;replace hRh:=hRh.keep hk;clear hk)
  obtain rfl:b=true:=hb.2 hmay
  repeat' (first|(refine XT ?_;apply XE;(first|(apply zA (vs:=zZ h);rfl;rfl;exact zD MEMT));clear hA a;intro a hA)|(refine QT ?_;clear hA a;intro a hA)|(refine SAT (zZ h) hA hH ?_;clear hH;intro w hH)|refine CT ?_|fail)
  refine wB (vs:=zZ h) (.inl rfl) rfl hA rfl rfl rfl hH (zD (by exact MEMT)) ⟨oB,oA,oG,o1,o2,o3,o4,cB,cG,c1,c2,c3,c4,by rw [hh],?_⟩
  exact ((((hH.perm (H':=own 44 2 oG 1 cG (wE ⟨0,⟨oB,cB,[bl5 oA 1 5]⟩⟩)::own 53 6 oB 1 cB (zL (bl5 oA 1 5))::own 65 2 oA 1 1 (zV ⟨2,5⟩)::own 9 1 o1 g.ls.l.length c1 (flat yQ g.ls.l)::own 9 1 o2 g.ts.l.length c2 (flat yQ g.ts.l)::own 9 1 o3 g.xs.l.length c3 (flat yQ g.xs.l)::own 9 1 o4 g.ss.l.length c4 (flat yQ g.ss.l)::cb b4 25 (zZ h)::cb b1 34 (xF oF 1 cF g)::cb b2 25 (zZ h)::[]) PMT).rm 7).rm 7).rm 7)
end
def gA (oG oB oX p0 p1 p2 p3 p4 p5 p6 p7:Option Addr):Grs:=⟨⟨oG,1,[⟨0,⟨oB,4,[blA p0 p1 1 2,blJ p2 p3 1 1 7,blJ p4 p5 1 1 8,blR p6 p7 1 1]⟩⟩]⟩,yM,yM,⟨oX,4,xs4⟩,yM⟩
theorem itoa_8:xX 8=⟨#[56]⟩:=by decide +kernel
theorem itoa_5:xX 5=⟨#[53]⟩:=by decide +kernel
theorem gA_may (oG oB oX p0 p1 p2 p3 p4 p5 p6 p7:Option Addr):MayP (gA oG oB oX p0 p1 p2 p3 p4 p5 p6 p7):=mayA (a0:=p0) (a1:=p1) (b0:=p2) (b1:=p3) (d0:=p4) (d1:=p5) (e0:=p6) (e1:=p7) (oB:=oB) (cB:=4) rfl rfl rfl rfl rfl
theorem gA_run (oG oB oX p0 p1 p2 p3 p4 p5 p6 p7:Option Addr):sX (gA oG oB oX p0 p1 p2 p3 p4 p5 p6 p7) 2 9 (uI empS)=(1,xX 8,⟨empS,[],[]⟩):=rfl
theorem gA_runP (oG oB oX p0 p1 p2 p3 p4 p5 p6 p7:Option Addr):qA (gA oG oB oX p0 p1 p2 p3 p4 p5 p6 p7) 2 empS 9=(1,empS,⟨#[56]⟩):=by
  rw [kV (gA_may ..)]
  show ((sX _ 2 9 _).1,ofB (sX _ 2 9 _).2.2.out,(sX _ 2 9 _).2.1)=_
  rw [gA_run,itoa_8]
  rfl
theorem h5_runP {h:Grs} {oG oB o1:Option Addr} {cG cB:Nat} (hf:h.fs=⟨oG,cG,[⟨0,⟨oB,cB,[bl5 o1 1 5]⟩⟩]⟩) (hm:MayP h):(qA h 2 empS 9).2.2=⟨#[53]⟩:=by
  obtain ⟨fs,ls,ts,xs,ss⟩:=h
  dsimp only at hf
  subst hf
  rw [kV hm]
  have e:sX ⟨⟨oG,cG,[⟨0,⟨oB,cB,[bl5 o1 1 5]⟩⟩]⟩,ls,ts,xs,ss⟩ 2 9 (uI empS)=(1,xX 5,⟨empS,[],[]⟩):=rfl
  show (sX _ 2 9 _).2.1=_
  rw [e,itoa_5]
end Go.Proofs.YtenlcdokaadobaaGreatDoor
namespace Go.Fw
open Go Go.RowKit
set_option linter.unusedVariables false
theorem run_eqF3 {P:Program} {w:World} {d:Nat} {fs:List Field} {t1 t2 t3:TypeId} {k1 k2:Int} {a1 b1 a2 b2:ByteArray} (h:fs.map (fun f=>(f.name != "_",f.type,f.offset))=[(true,t1,0),(true,t2,1),(true,t3,2)])
    (h1:P.underlying t1=some (.int .i64)) (h2:P.underlying t2=some .string) (h3:P.underlying t3=some .string) (p1:P.plainKey t1=true) (p2:P.plainKey t2=true) (p3:P.plainKey t3=true) :
    (Op.eqFields (d+1) #[.int .i64 k1,.string a1,.string b1] #[.int .i64 k2,.string a2,.string b2] fs).run P w= .ok (k1 == k2 && (a1.toList == a2.toList && b1.toList == b2.toList)) w:=by
  rcases fs with _| ⟨f1,_| ⟨f2,_| ⟨f3,_| ⟨f4,fs⟩⟩⟩⟩
  · cases h
  · exact absurd (congrArg List.length h) (by simp)
  · exact absurd (congrArg List.length h) (by simp)
  rotate_left
  · exact absurd (congrArg List.length h) (by simp)
  · simp only [List.map_cons,List.map_nil,List.cons.injEq,Prod.mk.injEq,and_true,bne_iff_ne,ne_eq] at h
    obtain ⟨⟨n1,rfl,o1⟩,⟨n2,rfl,o2⟩,⟨n3,rfl,o3⟩⟩:=h
    simp only [Op.eqFields,n1,n2,n3,ne_eq,not_false_eq_true,if_true,o1,o2,o3,Sem.run_bind]
    rw [run_part_plain w p1 (v:=.int .i64 k1) rfl]
    simp only [Result.andThen_ok]
    rw [run_part_plain w p1 (v:=.int .i64 k2) rfl]
    simp only [Result.andThen_ok,run_equalIn_int w d _ _ .i64 k1 k2 h1]
    cases hk:k1 == k2
    · simp
    simp only [Bool.not_true,Bool.false_eq_true,if_false,Bool.true_and,Sem.run_bind]
    rw [run_part_plain w p2 (v:=.string a1) rfl]
    simp only [Result.andThen_ok]
    rw [run_part_plain w p2 (v:=.string a2) rfl]
    simp only [Result.andThen_ok,run_equalIn_string w d _ a1 a2 h2]
    cases ha:a1.toList == a2.toList
    · simp
    simp only [Bool.not_true,Bool.false_eq_true,if_false,Bool.true_and,Sem.run_bind]
    rw [run_part_plain w p3 (v:=.string b1) rfl]
    simp only [Result.andThen_ok]
    rw [run_part_plain w p3 (v:=.string b2) rfl]
    simp only [Result.andThen_ok,run_equalIn_string w d _ b1 b2 h3]
    cases hb:b1.toList == b2.toList<;>simp
theorem ex_field {P:Program} {N:Nat} {l:List (Nat × Value)} {C:World→Prop} {d:Option Tmp} {T:TypeId} {pos:String} {af:Array Edge} {g:Option (Nat × Bool)} {s:TypeId} {x:Operand} {i ft off:Nat} {fl:List (Nat × Nat)} {cs:Array Value} {v:Value} [h:TSt P s fl] (hx:ev l x=some (.agg cs)) (hf0:nth fl i=some (ft,off)) (hp:P.plainKey ft=true) (hv:cs[off]?=some v) :
    Ex P N l C ⟨d,.field s x i,T,pos,af,g⟩ v:=by
  intro a w hA _
  have hf:=hf0
  rw [qG] at hf
  obtain ⟨fs,h1,h2⟩:=h.eq
  have hl:fs.toList[i]?.map (fun f=>(f.type,f.offset))=some (ft,off):=by rw [←List.getElem?_map,h2,hf]
  obtain ⟨f,hfi,hfe⟩:=Option.map_eq_some_iff.1 hl
  have hfi':fs[i]?=some f:=by simpa using hfi
  simp only [Prod.mk.injEq] at hfe
  obtain ⟨rfl,rfl⟩:=hfe
  simp [execOp,hA.ev hx,Instr.field,run_underlying h1,hfi',asAgg,run_part_plain w hp hv]
theorem ex_eqlSs {P:Program} {N:Nat} {l:List (Nat × Value)} {C:World→Prop} {d:Option Tmp} {T:TypeId} {pos:String} {af:Array Edge} {gd:Option (Nat × Bool)} {t ty:TypeId} {x y:Operand} {m:ByteArray} [h:TSr P t] (hx:ev l x=some (.string m)) (hy:ev l y=some (.string m)):Ex P N l C ⟨d,.binOp .eql t x y ty,T,pos,af,gd⟩ (.bool true):=by
  have:=uK (N:=N) (C:=C) (d:=d) (T:=T) (pos:=pos) (af:=af) (g:=gd) (ty:=ty) (h:=h) hx hy
  rwa [beq_self_eq_true] at this
end Go.Fw
namespace Go.Proofs.YtenlcdokaadobaaGreatDoor
open Go Go.Fw
set_option linter.unusedVariables false
theorem fo_29:(Tryz.prog.fieldsOf 29).toList.map (fun f=>(f.name != "_",f.type,f.offset))=[(true,3,0),(true,9,1),(true,9,2)]:=by decide +kernel
theorem ge_29:Tryz.prog.eqGuardType Tryz.prog.depth 29=false:=by decide +kernel
theorem st_29:Tryz.prog.stoodInHeld 29=false:=by decide +kernel
theorem isSt_29:(match Tryz.prog.underlying 29 with|some (.struct _)=>true|_=>false)=true:=by decide +kernel
theorem un_29:Tryz.prog.underlying 29=some (.struct (Tryz.prog.fieldsOf 29)):=by
  have h:=isSt_29
  unfold Program.fieldsOf
  cases hu:Tryz.prog.underlying 29 with
  |none=>rw [hu] at h;cases h
  |some d=>cases d<;>rw [hu] at h<;>first|rfl|cases h
theorem pk_3:Tryz.prog.plainKey 3=true:=by decide +kernel
theorem pk_9:Tryz.prog.plainKey 9=true:=by decide +kernel
def eqO (a b:Int × ByteArray × ByteArray):Bool:=a.1 == b.1 && (a.2.1.toList == b.2.1.toList && a.2.2.toList == b.2.2.toList)
theorem ex_eqlO {N:Nat} {l:List (Nat × Value)} {C:World→Prop} {d:Option Tmp} {T:TypeId} {pos:String} {af:Array Edge} {gd:Option (Nat × Bool)} {ty:TypeId} {x y:Operand} {p q:Int × ByteArray × ByteArray} (hx:ev l x=some (.agg (uC p).toArray)) (hy:ev l y=some (.agg (uC q).toArray)) :
    Ex Tryz.prog N l C ⟨d,.binOp .eql 29 x y ty,T,pos,af,gd⟩ (.bool (eqO p q)):=by
  intro a w hA _
  simp only [execOp,hA.ev hx,hA.ev hy,Sem.run_bind,run_eqGuard_agg w .eql _ _ _ _ _ ge_29,Result.andThen_ok,run_eql_struct]
  rw [show (10000:Nat)=9999+1 from rfl,run_equalIn_agg w 9999 _ _ _ un_29 st_29]
  have h:=run_eqF3 (P:=Tryz.prog) (w:=w) (d:=9998) (k1:=p.1) (k2:=q.1) (a1:=p.2.1) (b1:=p.2.2) (a2:=q.2.1) (b2:=q.2.2) fo_29 (TIn.eq (t:=3)) (TSr.eq (t:=9)) (TSr.eq (t:=9)) pk_3 pk_9 pk_9
  have e1:(uC p).toArray=#[.int .i64 p.1,.string p.2.1,.string p.2.2]:=rfl
  have e2:(uC q).toArray=#[.int .i64 q.1,.string q.2.1,.string q.2.2]:=rfl
  rw [e1,e2,h]
  rfl
theorem eqO_refl (p:Int × ByteArray × ByteArray):eqO p p=true:=by simp [eqO]
theorem aU {N:Nat} {l:List (Nat × Value)} {C:World→Prop} {d:Option Tmp} {T:TypeId} {pos:String} {af:Array Edge} {gd:Option (Nat × Bool)} {ty:TypeId} {x y:Operand} {p:Int × ByteArray × ByteArray} (hx:ev l x=some (.agg (uC p).toArray)) (hy:ev l y=some (.agg (uC p).toArray)) :
    Ex Tryz.prog N l C ⟨d,.binOp .eql 29 x y ty,T,pos,af,gd⟩ (.bool true):=by
  have h:=ex_eqlO (N:=N) (C:=C) (d:=d) (T:=T) (pos:=pos) (af:=af) (gd:=gd) (ty:=ty) hx hy
  rwa [eqO_refl] at h
theorem xs4_sz:∀s∈xs4,s.size≤4611686018427387904:=by decide +kernel
theorem gA_bs (oG p8 oX p0 p1 p2 p3 p4 p5 p6 p7:Option Addr):∀f∈(gA oG p8 oX p0 p1 p2 p3 p4 p5 p6 p7).fs.l,f.bs.l.length≤1048576∧∀bl∈f.bs.l,bl.e.to.l.length≤1048576:=by
  intro f hf
  obtain rfl:=List.mem_singleton.1 hf
  refine ⟨(by decide:4≤1048576),fun b hb=>?_⟩
  simp only [List.mem_cons,List.not_mem_nil,or_false] at hb
  rcases hb with rfl|rfl|rfl|rfl
  · exact (by decide:2≤1048576)
  · exact (by decide:1≤1048576)
  · exact (by decide:1≤1048576)
  · exact (by decide:0≤1048576)
def zF5:Value:=.agg #[.int .i64 0,.int .i64 0,.int .i64 0,.slice none 0 0,.int .i64 0,.slice none 0 0,.int .i64 0,.int .i64 0,.slice none 0 0,.slice none 0 0,.slice none 0 0,.slice none 0 0]
theorem fill_F5 (o:Option Addr):Instr.fill (fun x=>([(0,1),(1,11)]:List (Nat × Nat))[x]?) zF5.cells [(1,.agg (encB o).toArray)]=some (xR o 0).toArray:=by
  simp [Instr.fill,zF5,xR,encB,Value.cells]
theorem h5_bs {oB oA oG o1 o2 o3 o4:Option Addr} {cB cG c1 c2 c3 c4:Nat} {g:Grs}:∀f∈(h5 oB oA oG o1 o2 o3 o4 cB cG c1 c2 c3 c4 g).fs.l,f.bs.l.length≤1048576∧∀bl∈f.bs.l,bl.e.to.l.length≤1048576:=by
  intro f hf
  obtain rfl:=List.mem_singleton.1 hf
  refine ⟨(by decide:1≤1048576),fun b hb=>?_⟩
  obtain rfl:=List.mem_singleton.1 hb
  exact (by decide:0≤1048576)
theorem gr0s_rd (w:World):RdGs w qK:=⟨yX _ _,fun x hx=>absurd hx (List.not_mem_nil),yX _ _,yX _ _,yX _ _,yX _ _⟩
theorem xs4_c:flat yQ xs4=[.string ⟨#[66,111,117,110,100,115]⟩,.string ⟨#[68,105,118,105,100,101]⟩,.string ⟨#[77,97,116,99,104]⟩,.string ⟨#[83,105,122,101]⟩]:=rfl
theorem cats4 (a b c d:Blc):Cats 6 [.agg (zL a).toArray,.agg (zL b).toArray,.agg (zL c).toArray,.agg (zL d).toArray] (flat zL [a,b,c,d]):=Cats.cn (cs:=zL a) (Cats.cn (cs:=zL b) (Cats.cn (cs:=zL c) (Cats.cn (cs:=zL d) Cats.nil)))
theorem gA_rd {w0 w:World} {H:List It} {oG p8 oX p0 p1 p2 p3 p4 p5 p6 p7:Option Addr} (hH:HS w0 noM (own 9 1 oX 4 4 (flat yQ xs4)::own 44 2 oG 1 1 (wE ⟨0,⟨p8,4,[blA p0 p1 1 2,blJ p2 p3 1 1 7,blJ p4 p5 1 1 8,blR p6 p7 1 1]⟩⟩)::own 53 6 p8 4 4 (flat zL [blA p0 p1 1 2,blJ p2 p3 1 1 7,blJ p4 p5 1 1 8,blR p6 p7 1 1])::own 65 2 p7 1 1 (zV ⟨1,2⟩)::own 3 1 p6 1 1 [.int .i64 2]::own 61 2 p5 1 1 [.int .i64 3,.slice p4 1 1]::own 65 2 p4 1 1 (zV ⟨2,8⟩)::own 61 2 p3 1 1 [.int .i64 3,.slice p2 1 1]::own 65 2 p2 1 1 (zV ⟨2,7⟩)::own 61 2 p1 2 2 [.int .i64 1,.slice none 0 0,.int .i64 2,.slice none 0 0]::own 65 2 p0 1 1 (zV ⟨1,1⟩)::H) w):RdGs w (gA oG p8 oX p0 p1 p2 p3 p4 p5 p6 p7):=by
  have hX:=hH.own_rd (T:=9) (o:=oX) (n:=4) (cap:=4) (xs:=flat yQ xs4) (by repeat (first|exact List.Mem.head _|apply List.Mem.tail))
  have hG:=hH.own_rd (T:=44) (o:=oG) (n:=1) (cap:=1) (sz:=2) (xs:=wE ⟨0,⟨p8,4,[blA p0 p1 1 2,blJ p2 p3 1 1 7,blJ p4 p5 1 1 8,blR p6 p7 1 1]⟩⟩) (by repeat (first|exact List.Mem.head _|apply List.Mem.tail))
  have hB:=hH.own_rd (T:=53) (o:=p8) (n:=4) (cap:=4) (sz:=6) (xs:=flat zL [blA p0 p1 1 2,blJ p2 p3 1 1 7,blJ p4 p5 1 1 8,blR p6 p7 1 1]) (by repeat (first|exact List.Mem.head _|apply List.Mem.tail))
  have h0:=hH.own_rd (T:=65) (o:=p0) (n:=1) (cap:=1) (sz:=2) (xs:=zV ⟨1,1⟩) (by repeat (first|exact List.Mem.head _|apply List.Mem.tail))
  have h1:=hH.own_rd (T:=61) (o:=p1) (n:=2) (cap:=2) (sz:=2) (xs:=[.int .i64 1,.slice none 0 0,.int .i64 2,.slice none 0 0]) (by repeat (first|exact List.Mem.head _|apply List.Mem.tail))
  have h2:=hH.own_rd (T:=65) (o:=p2) (n:=1) (cap:=1) (sz:=2) (xs:=zV ⟨2,7⟩) (by repeat (first|exact List.Mem.head _|apply List.Mem.tail))
  have h3:=hH.own_rd (T:=61) (o:=p3) (n:=1) (cap:=1) (sz:=2) (xs:=[.int .i64 3,.slice p2 1 1]) (by repeat (first|exact List.Mem.head _|apply List.Mem.tail))
  have h4:=hH.own_rd (T:=65) (o:=p4) (n:=1) (cap:=1) (sz:=2) (xs:=zV ⟨2,8⟩) (by repeat (first|exact List.Mem.head _|apply List.Mem.tail))
  have h5:=hH.own_rd (T:=61) (o:=p5) (n:=1) (cap:=1) (sz:=2) (xs:=[.int .i64 3,.slice p4 1 1]) (by repeat (first|exact List.Mem.head _|apply List.Mem.tail))
  have h6:=hH.own_rd (T:=3) (o:=p6) (n:=1) (cap:=1) (sz:=1) (xs:=[.int .i64 2]) (by repeat (first|exact List.Mem.head _|apply List.Mem.tail))
  have h7:=hH.own_rd (T:=65) (o:=p7) (n:=1) (cap:=1) (sz:=2) (xs:=zV ⟨1,2⟩) (by repeat (first|exact List.Mem.head _|apply List.Mem.tail))
  have h11:1≤1∧1≤maxLen:=⟨Nat.le_refl _,by decide⟩
  refine ⟨⟨hG,h11⟩,fun x hx=>?_,yX _ _,yX _ _,⟨hX,Nat.le_refl 4,(by decide:4≤maxLen)⟩,yX _ _⟩
  obtain rfl:=List.mem_singleton.1 hx
  refine ⟨⟨hB,Nat.le_refl 4,(by decide:4≤maxLen)⟩,fun b hb=>?_⟩
  have hb:b∈[blA p0 p1 1 2,blJ p2 p3 1 1 7,blJ p4 p5 1 1 8,blR p6 p7 1 1]:=hb
  rcases List.mem_cons.1 hb with rfl|hb
  · refine ⟨yX _ _,yX _ _,fun i hi=>absurd hi (List.not_mem_nil),⟨h0,h11⟩,yX _ _,⟨h1,Nat.le_refl 2,by show 2≤maxLen;decide⟩,fun x hx=>?_⟩
    have hx:x∈[(⟨1,yM⟩:Edg),⟨2,yM⟩]:=hx
    rcases List.mem_cons.1 hx with rfl|hx
    · exact yX _ _
    · obtain rfl:=List.mem_singleton.1 hx
      exact yX _ _
  rcases List.mem_cons.1 hb with rfl|hb
  · refine ⟨yX _ _,yX _ _,fun i hi=>absurd hi (List.not_mem_nil),yX _ _,yX _ _,⟨h3,h11⟩,fun x hx=>?_⟩
    obtain rfl:=List.mem_singleton.1 hx
    exact ⟨h2,h11⟩
  rcases List.mem_cons.1 hb with rfl|hb
  · refine ⟨yX _ _,yX _ _,fun i hi=>absurd hi (List.not_mem_nil),yX _ _,yX _ _,⟨h5,h11⟩,fun x hx=>?_⟩
    obtain rfl:=List.mem_singleton.1 hx
    exact ⟨h4,h11⟩
  obtain rfl:=List.mem_singleton.1 hb
  exact ⟨⟨h6,h11⟩,yX _ _,fun i hi=>absurd hi (List.not_mem_nil),⟨h7,h11⟩,yX _ _,yX _ _,fun x hx=>absurd hx (List.not_mem_nil)⟩
section
attribute [local irreducible] Code.wp wpList Calls Ex Op1 sat bat blk cb own Go.Fw.mp Go.Fw.mpO Go.Fw.mpI Go.Fw.mpE Go.Fw.itr HS Rd Ret wkD Hp Cl Cls Exit.then Exit.inBlock Exit.noGoto bodyPost Go.Fw.flat wk2 Go.Fw.all Go.Fw.owns wpOp
attribute [local irreducible] sk mpK sko mvO xM opM Go.Fw.mset Go.Fw.mv opK

theorem nJ (w0:World) (n:Int):Ret Tryz.prog 24 #[.int .i64 n] w0 (fun r w=>∃o,r= .slice o 1 1∧HS w0 noM [own 65 2 o 1 1 (zV ⟨2,n⟩)] w):=by
  have hH:HS w0 noM [] w0:=HS.init w0 noM
  (refine ENT (N:=6) Tryz.func24 Tryz.ntmps24 ?_;intro a hA)
  repeat' (first|(refine XT ?_;apply XE;(first|(apply zK (cs:=(zV ⟨2,n⟩).toArray);rfl;exact FLT;rfl));clear hA a;intro a hA)|(refine QT ?_;clear hA a;intro a hA)|(refine LT ?_;clear hA hH;rintro _ w ⟨oN,rfl,hH⟩ a hA)|refine CT ?_|fail)
  exact rt1 (.inl rfl) rfl hA rfl ⟨_,rfl,hH⟩
theorem names_spec (w0:World) (o:Option Addr) (c:Nat) (l:List Blc):Ret Tryz.prog 23 #[.slice o l.length c] w0 (fun r w=>∃oG oX,r= .agg ((zZ ⟨⟨oG,1,[⟨0,⟨o,c,l⟩⟩]⟩,yM,yM,⟨oX,4,xs4⟩,yM⟩)).toArray∧HS w0 noM [own 9 1 oX 4 4 (flat yQ xs4),own 44 2 oG 1 1 (wE ⟨0,⟨o,c,l⟩⟩)] w):=by
  have hH:HS w0 noM [] w0:=HS.init w0 noM
  (refine ENT (N:=8) Tryz.func23 Tryz.ntmps23 ?_;intro a hA)
  repeat' (first|(refine XT ?_;apply XE;(first|(apply zK (cs:=(wE ⟨0,⟨o,c,l⟩⟩).toArray);rfl;exact FLT;rfl));clear hA a;intro a hA)|(refine QT ?_;clear hA a;intro a hA)|(refine BT ?_;clear hA hH;rintro _ w ⟨bN,rfl,hH⟩ a hA)|(refine LT ?_;clear hA hH;rintro _ w ⟨oN,rfl,hH⟩ a hA)|refine CT ?_|fail)
  have key:∃oG oX b2,HS w0 noM (own 9 1 oX 4 4 (flat yQ xs4)::own 44 2 oG 1 1 (wE ⟨0,⟨o,c,l⟩⟩)::cb b2 25 (zZ qK)::[]) w∧Sl 8 [(6,.slice oX 4 4),(5,.slice oG 1 1),(2,.pointer (some (bat b2 0)))] a:=⟨_,_,_,by rw [xs4_c];exact hH,(hA.sub SBT)⟩
  clear hA hH
  obtain ⟨oG,oX,b2,hH,hA⟩:=key
  repeat' (first|(refine XT ?_;apply XE;(first|(apply zK (cs:=((zZ ⟨⟨oG,1,[⟨0,⟨o,c,l⟩⟩]⟩,yM,yM,⟨oX,4,xs4⟩,yM⟩)).toArray);rfl;exact FLT;rfl));clear hA a;intro a hA)|(refine QT ?_;clear hA a;intro a hA)|(refine SAT ((zZ ⟨⟨oG,1,[⟨0,⟨o,c,l⟩⟩]⟩,yM,yM,⟨oX,4,xs4⟩,yM⟩)) hA hH ?_;clear hH;intro w hH)|refine CT ?_|fail)
  exact rH (vs:=(zZ ⟨⟨oG,1,[⟨0,⟨o,c,l⟩⟩]⟩,yM,yM,⟨oX,4,xs4⟩,yM⟩)) (.inl rfl) rfl hA rfl rfl hH (zD (by exact MEMT)) ⟨oG,oX,rfl,hH.rm 2⟩
theorem awake_spec (w0:World) (hFI:FI w0):Ret Tryz.prog 10 #[] w0 (fun r w=>r= .bool true∧Kp w0 noM w):=by
  have hH:HS w0 noM [] w0:=HS.init w0 noM
  (refine ENT (N:=79) Tryz.func10 Tryz.ntmps10 ?_;intro a hA)
  repeat' (first|(refine XT ?_;apply XE;(first|(apply zK (cs:=(zV ⟨1,1⟩).toArray);rfl;exact FLT;rfl));clear hA a;intro a hA)|(refine QT ?_;clear hA a;intro a hA)|(refine LT ?_;clear hA hH;rintro _ w ⟨oN,rfl,hH⟩ a hA)|refine CT ?_|fail)
  obtain ⟨p0,hb3⟩:∃x,x=oN:=⟨_,rfl⟩;rw [←hb3] at hA hH;clear hb3 oN
  repeat' (first|(refine XT ?_;apply XE;(first|(apply zK (cs:=([.int .i64 1,.slice none 0 0]).toArray);rfl;exact FLT;rfl)|(apply zK (cs:=([.int .i64 2,.slice none 0 0]).toArray);rfl;exact FLT;rfl));clear hA a;intro a hA)|(refine QT ?_;clear hA a;intro a hA)|(refine LT ?_;clear hA hH;rintro _ w ⟨oN,rfl,hH⟩ a hA)|fail)
  obtain ⟨p1,hb3⟩:∃x,x=oN:=⟨_,rfl⟩;rw [←hb3] at hA hH;clear hb3 oN
  repeat' (first|(refine XT ?_;apply XE;(first|(apply zK (cs:=([.int .i64 5,.slice p0 1 1,.slice none 0 0,.slice p1 2 2]).toArray);rfl;exact FLT;rfl)|(apply yZ (szs:=[(0,1),(1,1),(2,4)]) (cs:=(zL (blA p0 p1 1 2)).toArray);exact xS (by (repeat (first|exact SzL.nil|refine SzL.cons ⟨_,rfl,by decide⟩ ?_)));rfl;rfl));clear hA a;intro a hA)|(refine QT ?_;clear hA a;intro a hA)|fail)
  (refine zJ hA rfl rfl (by decide) (zE rfl rfl rfl (nJ _ 7)) ?_;clear hA;rintro _ w ⟨p2,rfl,hj⟩ a hA;replace hH:=hH.join hj;clear hj)
  repeat' (first|(refine XT ?_;apply XE;(first|(apply zK (cs:=([.int .i64 3,.slice p2 1 1]).toArray);rfl;exact FLT;rfl));clear hA a;intro a hA)|(refine QT ?_;clear hA a;intro a hA)|(refine LT ?_;clear hA hH;rintro _ w ⟨oN,rfl,hH⟩ a hA)|fail)
  obtain ⟨p3,hb3⟩:∃x,x=oN:=⟨_,rfl⟩;rw [←hb3] at hA hH;clear hb3 oN
  repeat' (first|(refine XT ?_;apply XE;(first|(apply zK (cs:=([.int .i64 4,.slice none 0 0,.slice none 0 0,.slice p3 1 1]).toArray);rfl;exact FLT;rfl)|(apply yZ (szs:=[(0,1),(1,1),(2,4)]) (cs:=(zL (blJ p2 p3 1 1 7)).toArray);exact xS (by (repeat (first|exact SzL.nil|refine SzL.cons ⟨_,rfl,by decide⟩ ?_)));rfl;rfl));clear hA a;intro a hA)|(refine QT ?_;clear hA a;intro a hA)|fail)
  (refine zJ hA rfl rfl (by decide) (zE rfl rfl rfl (nJ _ 8)) ?_;clear hA;rintro _ w ⟨p4,rfl,hj⟩ a hA;replace hH:=hH.join hj;clear hj)
  repeat' (first|(refine XT ?_;apply XE;(first|(apply zK (cs:=([.int .i64 3,.slice p4 1 1]).toArray);rfl;exact FLT;rfl));clear hA a;intro a hA)|(refine QT ?_;clear hA a;intro a hA)|(refine LT ?_;clear hA hH;rintro _ w ⟨oN,rfl,hH⟩ a hA)|fail)
  obtain ⟨p5,hb3⟩:∃x,x=oN:=⟨_,rfl⟩;rw [←hb3] at hA hH;clear hb3 oN
  repeat' (first|(refine XT ?_;apply XE;(first|(apply zK (cs:=([.int .i64 4,.slice none 0 0,.slice none 0 0,.slice p5 1 1]).toArray);rfl;exact FLT;rfl)|(apply yZ (szs:=[(0,1),(1,1),(2,4)]) (cs:=(zL (blJ p4 p5 1 1 8)).toArray);exact xS (by (repeat (first|exact SzL.nil|refine SzL.cons ⟨_,rfl,by decide⟩ ?_)));rfl;rfl));clear hA a;intro a hA)|(refine QT ?_;clear hA a;intro a hA)|(refine LT ?_;clear hA hH;rintro _ w ⟨oN,rfl,hH⟩ a hA)|fail)
  have key:∃p6 p7,HS w0 noM (own 65 2 p7 1 1 (zV ⟨1,2⟩)::own 3 1 p6 1 1 [.int .i64 2]::own 61 2 p5 1 1 [.int .i64 3,.slice p4 1 1]::own 65 2 p4 1 1 (zV ⟨2,8⟩)::own 61 2 p3 1 1 [.int .i64 3,.slice p2 1 1]::own 65 2 p2 1 1 (zV ⟨2,7⟩)::own 61 2 p1 2 2 [.int .i64 1,.slice none 0 0,.int .i64 2,.slice none 0 0]::own 65 2 p0 1 1 (zV ⟨1,1⟩)::[]) w∧Sl 79 [(29,.slice p7 1 1),(27,.slice p6 1 1),(26,.agg (zL (blJ p4 p5 1 1 8)).toArray),(21,.agg (zL (blJ p2 p3 1 1 7)).toArray),(16,.agg (zL (blA p0 p1 1 2)).toArray),(0,.bool false)] a:=⟨_,_,hH.perm PMT,(hA.sub SBT)⟩
  clear hA hH
  obtain ⟨p6,p7,hH,hA⟩:=key
  repeat' (first|(refine XT ?_;apply XE;(first|(apply zK (cs:=([.int .i64 1,.slice p7 1 1,.slice none 0 0,.slice none 0 0]).toArray);rfl;exact FLT;rfl)|(apply yZ (szs:=[(0,1),(1,1),(2,4)]) (cs:=(zL (blR p6 p7 1 1)).toArray);exact xS (by (repeat (first|exact SzL.nil|refine SzL.cons ⟨_,rfl,by decide⟩ ?_)));rfl;rfl));clear hA a;intro a hA)|(refine QT ?_;clear hA a;intro a hA)|(apply zJ hA rfl rfl (by decide);apply zQ (xs:=flat zL [blA p0 p1 1 2,blJ p2 p3 1 1 7,blJ p4 p5 1 1 8,blR p6 p7 1 1]) (vs:=[.agg (zL (blA p0 p1 1 2)).toArray,.agg (zL (blJ p2 p3 1 1 7)).toArray,.agg (zL (blJ p4 p5 1 1 8)).toArray,.agg (zL (blR p6 p7 1 1)).toArray]);rfl;rfl;exact cats4 _ _ _ _;rfl;rfl;rfl;exact hH;clear hA hH;rintro _ w ⟨oN,rfl,hH⟩ a hA)|fail)
  obtain ⟨p8,hb3⟩:∃x,x=oN:=⟨_,rfl⟩;rw [←hb3] at hA hH;clear hb3 oN
  (refine zJ hA rfl rfl (by decide) (zE rfl rfl rfl (names_spec _ p8 4 [blA p0 p1 1 2,blJ p2 p3 1 1 7,blJ p4 p5 1 1 8,blR p6 p7 1 1])) ?_;clear hA;rintro _ w ⟨oG,oX,rfl,hj⟩ a hA;replace hH:=hH.join hj;clear hj)
  obtain ⟨g,hg⟩:∃g,g=gA oG p8 oX p0 p1 p2 p3 p4 p5 p6 p7:=⟨_,rfl⟩
  have hGA:zZ ⟨⟨oG,1,[⟨0,⟨p8,4,[blA p0 p1 1 2,blJ p2 p3 1 1 7,blJ p4 p5 1 1 8,blR p6 p7 1 1]⟩⟩]⟩,yM,yM,⟨oX,4,xs4⟩,yM⟩=zZ g:=by rw [hg];rfl
  rw [hGA] at hA
  replace hH:=hH.perm (H':=own 9 1 oX 4 4 (flat yQ xs4)::own 44 2 oG 1 1 (wE ⟨0,⟨p8,4,[blA p0 p1 1 2,blJ p2 p3 1 1 7,blJ p4 p5 1 1 8,blR p6 p7 1 1]⟩⟩)::own 53 6 p8 4 4 (flat zL [blA p0 p1 1 2,blJ p2 p3 1 1 7,blJ p4 p5 1 1 8,blR p6 p7 1 1])::own 65 2 p7 1 1 (zV ⟨1,2⟩)::own 3 1 p6 1 1 [.int .i64 2]::own 61 2 p5 1 1 [.int .i64 3,.slice p4 1 1]::own 65 2 p4 1 1 (zV ⟨2,8⟩)::own 61 2 p3 1 1 [.int .i64 3,.slice p2 1 1]::own 65 2 p2 1 1 (zV ⟨2,7⟩)::own 61 2 p1 2 2 [.int .i64 1,.slice none 0 0,.int .i64 2,.slice none 0 0]::own 65 2 p0 1 1 (zV ⟨1,1⟩)::[]) PMT
  have hRg:RdGs w g:=by rw [hg];exact gA_rd (H:=[]) hH
  have hMg:MayP g:=by rw [hg];exact gA_may ..
  repeat' (first|(refine QT ?_;clear hA a;intro a hA)|(refine BT ?_;clear hA hH;rintro _ w ⟨bN,rfl,hH⟩ a hA)|(refine SAT (zZ g) hA hH ?_;clear hH;intro w hH)|refine CT ?_|fail)
  obtain ⟨b2,hb3⟩:∃x,x=bN:=⟨_,rfl⟩;rw [←hb3] at hA hH;clear hb3 bN
  have hxs:∀s∈g.xs.l,s.size≤4611686018427387904:=by rw [hg];exact xs4_sz
  have hfl:g.fs.l.length≤100000:=by rw [hg];exact (by decide:1≤100000)
  have hbs:∀f∈g.fs.l,f.bs.l.length≤1048576∧∀bl∈f.bs.l,bl.e.to.l.length≤1048576:=by rw [hg];exact fun f hf=>gA_bs _ _ _ _ _ _ _ _ _ _ _ f hf
  have hrun:uC (qA g 2 ⟨#[]⟩ 9)=xB 1 empS ⟨#[56]⟩:=by rw [hg];exact congrArg uC (gA_runP ..)
  have hR1:RdGs w g:=by rw [hg];exact gA_rd (H:=[]) hH.tail
  repeat' (first|(refine QT ?_;clear hA a;intro a hA)|fail)
  (refine zJ hA rfl rfl (by decide) (zE rfl rfl rfl (Run_spec _ g 2 ⟨#[]⟩ 9 hR1 hfl hbs hxs (by decide) (hFI.keep hH.kp))) ?_;clear hA;rintro _ w ⟨rfl,hk⟩ a hA;replace hH:=hH.keep hk;clear hk hR1)
  rw [hrun] at hA
  repeat' (first|(refine QT ?_;clear hA a;intro a hA)|(refine BT ?_;clear hA hH;rintro _ w ⟨bN,rfl,hH⟩ a hA)|(refine SAT (xB 1 empS ⟨#[56]⟩) hA hH ?_;clear hH;intro w hH)|refine CT ?_|fail)
  obtain ⟨b3,hb3⟩:∃x,x=bN:=⟨_,rfl⟩;rw [←hb3] at hA hH;clear hb3 bN
  have hST:HS w0 noM [cb b2 25 (zZ g)] w:=HS.left (H1:=[_]) hH.tail
  refine xO (qs [4,5] (.two 0 7 (qs [1,2] (.two 3 7 (.q 6 (.one 7 (.one 8 .nil))) (.one 3 (.q 6 (.one 8 .nil))))) (.one 0 (qs [1,2] (.one 3 (.q 6 (.one 8 .nil))))))) (fun a w=>∃b4 oA oF,HS w0 noM (cb b4 34 (xF oF 1 1 (⟨yM,yM,yM,g.xs,yM⟩:Grs))::own 72 12 oF 1 1 (xR oA 0)::own 65 2 oA 1 1 (zV ⟨2,5⟩)::cb b3 29 (xB 1 empS ⟨#[56]⟩)::cb b2 25 (zZ g)::own 9 1 oX 4 4 (flat yQ xs4)::own 44 2 oG 1 1 (wE ⟨0,⟨p8,4,[blA p0 p1 1 2,blJ p2 p3 1 1 7,blJ p4 p5 1 1 8,blR p6 p7 1 1]⟩⟩)::own 53 6 p8 4 4 (flat zL [blA p0 p1 1 2,blJ p2 p3 1 1 7,blJ p4 p5 1 1 8,blR p6 p7 1 1])::own 65 2 p7 1 1 (zV ⟨1,2⟩)::own 3 1 p6 1 1 [.int .i64 2]::own 61 2 p5 1 1 [.int .i64 3,.slice p4 1 1]::own 65 2 p4 1 1 (zV ⟨2,8⟩)::own 61 2 p3 1 1 [.int .i64 3,.slice p2 1 1]::own 65 2 p2 1 1 (zV ⟨2,7⟩)::own 61 2 p1 2 2 [.int .i64 1,.slice none 0 0,.int .i64 2,.slice none 0 0]::own 65 2 p0 1 1 (zV ⟨1,1⟩)::[]) w∧
    Sl 79 [(4,.pointer (some (bat b4 0))),(3,.pointer (some (bat b3 0))),(2,.pointer (some (bat b2 0))),(0,.bool false)] a) mixed (by decide +kernel) hST ?_ ?_
  · clear hST
    replace hH:=hH.drew
    (repeat (apply yN hA rfl rfl rfl (by decide);(first|exact EXT|exact EXT2);clear hA a;intro a hA))
    apply uP
    rotate_left
    · (apply yT hA rfl rfl rfl (by decide);apply yV;exact hH;clear hA hH;rintro _ w ⟨bN,rfl,hH⟩;refine ⟨hH.pick (by exact MEMT),?_⟩;intro a hA)
      (refine yT hA rfl rfl rfl (by decide) (zE rfl rfl rfl (nJ _ 5)) ?_;clear hA;rintro _ w ⟨oA,rfl,hj⟩;replace hH:=hH.join hj;clear hj;refine ⟨hH.pick (by exact MEMT),?_⟩;intro a hA)
      (repeat (apply yN hA rfl rfl rfl (by decide);(first|exact EXT|exact EXT2|(apply yZ (szs:=[(0,1),(1,1),(2,1),(3,1),(4,1),(5,4),(9,1),(10,1)]) (cs:=(encB oA).toArray);exact xS (by (repeat (first|exact SzL.nil|refine SzL.cons ⟨_,rfl,by decide⟩ ?_)));rfl;rfl)|(apply yZ (szs:=[(0,1),(1,11)]) (cs:=(xR oA 0).toArray);exact xS (by (repeat (first|exact SzL.nil|refine SzL.cons ⟨_,rfl,by decide⟩ ?_)));rfl;exact fill_F5 oA));clear hA a;intro a hA))
      (apply yT hA rfl rfl rfl (by decide);apply zQ (xs:=xR oA 0) (vs:=[.agg (xR oA 0).toArray]);rfl;rfl;exact (Cats.cn (cs:=xR oA 0) Cats.nil);rfl;rfl;rfl;exact hH;clear hA hH;rintro _ w ⟨oN,rfl,hH⟩;refine ⟨hH.pick (by exact MEMT),?_⟩;intro a hA)
      (repeat (apply yN hA rfl rfl rfl (by decide);(first|exact EXT|exact EXT2|(apply zK (cs:=(xF oN 1 1 (⟨yM,yM,yM,g.xs,yM⟩:Grs)).toArray);rfl;exact FLT;rfl));clear hA a;intro a hA))
      (apply yR hA rfl rfl rfl;apply zI (vs:=xF oN 1 1 (⟨yM,yM,yM,g.xs,yM⟩:Grs));rfl;rfl;exact hH;(repeat constructor);(repeat rfl);clear hH;rintro _ w hH;refine ⟨hH.pick (by exact MEMT),?_⟩;apply xG)
      exact ⟨_,oA,_,hH.perm PMT,(hA.sub SBT)⟩
    (refine yT hA rfl rfl rfl (by decide) (zE rfl rfl rfl (nJ _ 5)) ?_;clear hA;rintro _ w ⟨oA,rfl,hj⟩;replace hH:=hH.join hj;clear hj;refine ⟨hH.pick (by exact MEMT),?_⟩;intro a hA)
    (repeat (apply yN hA rfl rfl rfl (by decide);(first|exact EXT|exact EXT2|(apply yZ (szs:=[(0,1),(1,1),(2,1),(3,1),(4,1),(5,4),(9,1),(10,1)]) (cs:=(encB oA).toArray);exact xS (by (repeat (first|exact SzL.nil|refine SzL.cons ⟨_,rfl,by decide⟩ ?_)));rfl;rfl)|(apply yZ (szs:=[(0,1),(1,11)]) (cs:=(xR oA 0).toArray);exact xS (by (repeat (first|exact SzL.nil|refine SzL.cons ⟨_,rfl,by decide⟩ ?_)));rfl;exact fill_F5 oA));clear hA a;intro a hA))
    apply uP
    rotate_left
    · (apply yT hA rfl rfl rfl (by decide);apply yV;exact hH;clear hA hH;rintro _ w ⟨bN,rfl,hH⟩;refine ⟨hH.pick (by exact MEMT),?_⟩;intro a hA)
      (apply yT hA rfl rfl rfl (by decide);apply zQ (xs:=xR oA 0) (vs:=[.agg (xR oA 0).toArray]);rfl;rfl;exact (Cats.cn (cs:=xR oA 0) Cats.nil);rfl;rfl;rfl;exact hH;clear hA hH;rintro _ w ⟨oN,rfl,hH⟩;refine ⟨hH.pick (by exact MEMT),?_⟩;intro a hA)
      (repeat (apply yN hA rfl rfl rfl (by decide);(first|exact EXT|exact EXT2|(apply zK (cs:=(xF oN 1 1 (⟨yM,yM,yM,g.xs,yM⟩:Grs)).toArray);rfl;exact FLT;rfl));clear hA a;intro a hA))
      (apply yR hA rfl rfl rfl;apply zI (vs:=xF oN 1 1 (⟨yM,yM,yM,g.xs,yM⟩:Grs));rfl;rfl;exact hH;(repeat constructor);(repeat rfl);clear hH;rintro _ w hH;refine ⟨hH.pick (by exact MEMT),?_⟩;apply xG)
      exact ⟨_,oA,_,hH.perm PMT,(hA.sub SBT)⟩
    (apply yT hA rfl rfl rfl (by decide);apply zQ (xs:=xR oA 0) (vs:=[.agg (xR oA 0).toArray]);rfl;rfl;exact (Cats.cn (cs:=xR oA 0) Cats.nil);rfl;rfl;rfl;exact hH;clear hA hH;rintro _ w ⟨oN,rfl,hH⟩;refine ⟨hH.pick (by exact MEMT),?_⟩;intro a hA)
    (repeat (apply yN hA rfl rfl rfl (by decide);(first|exact EXT|exact EXT2|(apply zK (cs:=(xF oN 1 1 (⟨yM,yM,yM,g.xs,yM⟩:Grs)).toArray);rfl;exact FLT;rfl));clear hA a;intro a hA))
    (apply yT hA rfl rfl rfl (by decide);apply yV;exact hH;clear hA hH;rintro _ w ⟨bN,rfl,hH⟩;refine ⟨hH.pick (by exact MEMT),?_⟩;intro a hA)
    (apply yR hA rfl rfl rfl;apply zI (vs:=xF oN 1 1 (⟨yM,yM,yM,g.xs,yM⟩:Grs));rfl;rfl;exact hH;(repeat constructor);(repeat rfl);clear hH;rintro _ w hH;refine ⟨hH.pick (by exact MEMT),?_⟩;apply xG)
    exact ⟨_,oA,_,hH.perm PMT,(hA.sub SBT)⟩
  clear hA hH hST
  rintro a w ⟨b4,oA,oF,hH,hA⟩
  have hxl:g.xs.l=xs4:=by rw [hg];rfl
  have hRx:RdV w yQ g.xs:=by rw [hg];exact (gA_rd (H:=[]) hH.tail.tail.tail.tail.tail).2.2.2.2.1
  have hF1:=hH.own_rd (T:=72) (.tail _ (.head _))
  have hA1:=hH.own_rd (T:=65) (o:=oA) (sz:=2) (.tail _ (.tail _ (.head _)))
  repeat' (first|(refine XT ?_;apply XE;(first|(apply zA (vs:=xF oF 1 1 (⟨yM,yM,yM,g.xs,yM⟩:Grs));rfl;rfl;exact zD MEMT));clear hA a;intro a hA)|(refine QT ?_;clear hA a;intro a hA)|refine CT ?_|fail)
  (refine zJ hA rfl rfl (by decide) (zE rfl rfl rfl (of1_spec _ (⟨yM,yM,yM,g.xs,yM⟩:Grs) oF oA 1 hF1 hA1 (yX _ _) (yX _ _) hRx (yX _ _) hxl rfl rfl rfl)) ?_;clear hA;rintro _ w ⟨q1,q2,q3,q4,q5,q6,q7,k1,k2,k3,k4,k5,k6,rfl,hj⟩ a hA;replace hH:=hH.join hj;clear hj)
  obtain ⟨h,hh⟩:∃h,h=h5 q1 q2 q3 q4 q5 q6 q7 k1 k2 k3 k4 k5 k6 (⟨yM,yM,yM,g.xs,yM⟩:Grs):=⟨_,rfl⟩
  rw [←hh] at hA
  have hmay:MayP h:=by rw [hh];exact may5 (n:=5) (of:=none) (oc:=0) (by decide) rfl hxl rfl rfl rfl
  have hrun5:(qA h 2 ⟨#[]⟩ 9).2.2=⟨#[53]⟩:=h5_runP (by rw [hh];rfl) hmay
  repeat' (first|(refine QT ?_;clear hA a;intro a hA)|(refine BT ?_;clear hA hH;rintro _ w ⟨bN,rfl,hH⟩ a hA)|(refine SAT (zZ h) hA hH ?_;clear hH;intro w hH)|refine CT ?_|fail)
  obtain ⟨b5,hb3⟩:∃x,x=bN:=⟨_,rfl⟩;rw [←hb3] at hA hH;clear hb3 bN
  repeat' (first|(refine XT ?_;apply XE;(first|(apply zK (cs:=(xF none 0 0 qK).toArray);rfl;exact FLT;rfl));clear hA a;intro a hA)|(refine QT ?_;clear hA a;intro a hA)|fail)
  have hA2:Rd w oA (zV at5):=hH.own_rd (T:=65) (o:=oA) (sz:=2) (n:=1) (cap:=1) (xs:=zV ⟨2,5⟩) (by repeat (first|exact List.Mem.head _|apply List.Mem.tail))
  (refine zJ hA rfl rfl (by decide) (zE rfl rfl rfl (of0_spec _ qK rfl (yX _ _) (yX _ _) (yX _ _) (yX _ _) oA hA2)) ?_;clear hA;rintro _ w ⟨rfl,hk⟩ a hA;replace hH:=hH.keep hk;clear hk hA2)
  repeat' (first|(refine QT ?_;clear hA a;intro a hA)|(refine BT ?_;clear hA hH;rintro _ w ⟨bN,rfl,hH⟩ a hA)|(refine SAT (zZ qK) hA hH ?_;clear hH;intro w hH)|refine CT ?_|fail)
  obtain ⟨b7,hb3⟩:∃x,x=bN:=⟨_,rfl⟩;rw [←hb3] at hA hH;clear hb3 bN
  have hRg2:RdGs w g:=by rw [hg];exact gA_rd (H:=[]) (HS.right (H1:=[_,_,_,_,_,_,_,_,_,_,_,_,_,_]) hH)
  repeat' (first|(refine QT ?_;clear hA a;intro a hA)|fail)
  (refine zJ hA rfl rfl (by decide) (zE rfl rfl rfl (May_spec _ g hRg2 hfl hbs)) ?_;clear hA;rintro _ w ⟨b,rfl,hk,hb⟩ a hA;replace hH:=hH.keep hk;clear hk hRg2)
  obtain rfl:b=true:=hb.2 hMg
  repeat' (first|(refine GT ?_ ?_<;>intro hg<;>clear hA a<;>intro a hA<;>(first|exact FA|replace hg:=dTr hg|replace hg:=dFa hg|skip))|(refine XT ?_;apply XE;(first|(apply zK (cs:=(zZ qK).toArray);rfl;exact FLT;rfl));clear hA a;intro a hA)|(refine QT ?_;clear hA a;intro a hA)|fail)
  (refine zJ hA rfl rfl (by decide) (zE rfl rfl rfl (May_spec _ qK (gr0s_rd _) (by decide) (fun f hf=>absurd hf (List.not_mem_nil)))) ?_;clear hA;rintro _ w ⟨b,rfl,hk,hb0⟩ a hA;replace hH:=hH.keep hk;clear hk)
  obtain rfl:b=false:=by
    cases b with
    |false=>rfl
    |true=>exact absurd (hb0.1 rfl) (may0 rfl)
  repeat' (first|(refine GT ?_ ?_<;>intro hg<;>clear hA a<;>intro a hA<;>(first|exact FA|replace hg:=dTr hg|replace hg:=dFa hg|skip))|(refine XT ?_;apply XE;(first|(apply zA (vs:=xB 1 empS ⟨#[56]⟩);rfl;rfl;exact zD MEMT)|(apply zK (cs:=(xB 1 empS ⟨#[56]⟩).toArray);rfl;exact FLT;rfl)|(apply aU (p:=(1,empS,⟨#[56]⟩));rfl;rfl));clear hA a;intro a hA)|(refine QT ?_;clear hA a;intro a hA)|fail)
  have hRh:RdGs w h:=by
    rw [hh]
    exact h5_rd (g:=(⟨yM,yM,yM,g.xs,yM⟩:Grs)) (hH.tail.tail)
  have hxh:∀s∈h.xs.l,s.size≤4611686018427387904:=by rw [hh];show ∀s∈g.xs.l,_;exact hxs
  have hfh:h.fs.l.length≤100000:=by rw [hh];exact (by decide:1≤100000)
  have hbh:∀f∈h.fs.l,f.bs.l.length≤1048576∧∀bl∈f.bs.l,bl.e.to.l.length≤1048576:=by rw [hh];exact h5_bs (g:=(⟨yM,yM,yM,g.xs,yM⟩:Grs))
  (refine zJ hA rfl rfl (by decide) (zE rfl rfl rfl (Run_spec _ h 2 ⟨#[]⟩ 9 hRh hfh hbh hxh (by decide) (hFI.keep hH.kp))) ?_;clear hA;rintro _ w ⟨rfl,hk⟩ a hA;replace hH:=hH.keep hk;clear hk hRh)
  obtain ⟨⟨r1,r2,r3⟩,hr⟩:∃r,r=qA h 2 ⟨#[]⟩ 9:=⟨_,rfl⟩
  rw [←hr] at hA hrun5
  dsimp only at hrun5
  subst hrun5
  repeat' (first|(refine GT ?_ ?_<;>intro hg<;>clear hA a<;>intro a hA<;>(first|exact FA|replace hg:=dTr hg|replace hg:=dFa hg|skip))|(refine XT ?_;apply XE;(first|(apply ex_eqlSs (m:=⟨#[53]⟩);rfl;rfl)|(apply ex_field (v:=.string ⟨#[53]⟩);rfl;rfl;exact pk_9;rfl));clear hA a;intro a hA)|(refine QT ?_;clear hA a;intro a hA)|refine CT ?_|fail)
  exact rt1 (.inl rfl) rfl hA rfl ⟨rfl,hH.kp⟩
end
end Go.Proofs.YtenlcdokaadobaaGreatDoor
namespace Go.Fw
open Go Go.RowKit
section
variable {P:Program} {N:Nat} {l:List (Nat × Value)} {C:World→Prop} {d:Option Tmp} {T:TypeId} {pos:String} {af:Array Edge} {g:Option (Nat × Bool)}
end
end Go.Fw
namespace Go.Proofs.YtenlcdokaadobaaGreatDoor
open Go Go.Fw
set_option linter.unusedVariables false
section
attribute [local irreducible] Code.wp wpList Calls Ex Op1 sat bat blk cb own Go.Fw.mp Go.Fw.mpO Go.Fw.mpI Go.Fw.mpE Go.Fw.itr HS Rd Ret wkD Hp Cl Cls Exit.then Exit.inBlock Exit.noGoto bodyPost Go.Fw.flat wk2 Go.Fw.all Go.Fw.owns wpOp
attribute [local irreducible] sk mpK sko mvO xM opM Go.Fw.mset Go.Fw.mv opK

theorem large_spec (w0:World) (g:Grs) (hR:RdGs w0 g) (hs:SzG 1048576 g):Ret Tryz.prog 11 #[.agg (zZ g).toArray] w0 (fun r w=>∃b,r= .bool b∧(b=true↔50<g.fs.l.length∨1000<rW g)∧Kp w0 noM w):=by
  have hH:HS w0 noM [] w0:=HS.init w0 noM
  have hfs:=hs.fs
  (refine ENT (N:=12) Tryz.func11 Tryz.ntmps11 ?_;intro a hA)
  by_cases hl:50<g.fs.l.length
  · repeat' (first|(refine GT ?_ ?_<;>intro hg<;>clear hA a<;>intro a hA<;>(first|exact FA|replace hg:=dTr hg|replace hg:=dFa hg|skip))|(refine QT ?_;clear hA a;intro a hA)|(refine BT ?_;clear hA hH;rintro _ w ⟨bN,rfl,hH⟩ a hA)|refine CT ?_|fail)
    exact rt1 (.inl rfl) rfl hA rfl ⟨true,rfl,iff_of_true rfl (.inl hl),hH.kp⟩
  repeat' (first|(refine GT ?_ ?_<;>intro hg<;>clear hA a<;>intro a hA<;>(first|exact FA|replace hg:=dTr hg|replace hg:=dFa hg|skip))|(refine XT ?_;apply XE;(first|(apply zA (vs:=zZ g);rfl;rfl;exact zD MEMT));clear hA a;intro a hA)|(refine QT ?_;clear hA a;intro a hA)|(refine BT ?_;clear hA hH;rintro _ w ⟨bN,rfl,hH⟩ a hA)|refine CT ?_|fail)
  (refine zJ hA rfl rfl (by decide) (zE rfl rfl rfl (Parts_spec _ g 1000 (by decide) (hR.keep hH.kp) hs)) ?_;clear hA;rintro _ w ⟨n,rfl,hn,hk⟩ a hA;replace hH:=hH.keep hk;clear hk)
  by_cases h2:n≤1000
  · repeat' (first|(refine QT ?_;clear hA a;intro a hA)|refine CT ?_|fail)
    exact rt1 (.inl rfl) rfl hA rfl ⟨_,rfl,iff_of_false (fun h=>(by have:=dTr h;omega)) (fun h=>(by have:=hn.1 h2;omega)),hH.kp⟩
  · repeat' (first|(refine QT ?_;clear hA a;intro a hA)|refine CT ?_|fail)
    exact rt1 (.inl rfl) rfl hA rfl ⟨_,rfl,iff_of_true (decide_eq_true (by omega)) (.inr (by have:=fun h=>h2 (hn.2 h);omega)),hH.kp⟩
end
def hi (x:Int):Int:=if x<2 then x else x+262144
def hiA (a:Atm):Atm:=if a.k=1∧1<a.n then ⟨a.k,pJ (a.n+262144)⟩ else a
section
attribute [local irreducible] Code.wp wpList Calls Ex Op1 sat bat blk cb own Go.Fw.mp Go.Fw.mpO Go.Fw.mpI Go.Fw.mpE Go.Fw.itr HS Rd Ret wkD Hp Cl Cls Exit.then Exit.inBlock Exit.noGoto bodyPost Go.Fw.flat wk2 Go.Fw.all Go.Fw.owns wpOp
attribute [local irreducible] sk mpK sko mvO xM opM Go.Fw.mset Go.Fw.mv opK

end
def Al {α β:Type} (R:α→β→Prop):List α→List β→Prop
  | [],[]=>True
  |x::l,y::m=>R x y∧Al R l m
  |_,_=>False
theorem Al.len {α β:Type} {R:α→β→Prop}:∀{l:List α} {m:List β},Al R l m→m.length=l.length
  | [],[],_=>rfl
  |x::l,y::m,h=>by rw [List.length_cons,List.length_cons,Al.len h.2]
  | [],_::_,h=>h.elim
  |_::_,[],h=>h.elim
theorem Al.snoc {α β:Type} {R:α→β→Prop}:∀{l:List α} {m:List β} {x:α} {y:β},Al R l m→R x y→Al R (l++[x]) (m++[y])
  | [],[],x,y,_,h=>⟨h,trivial⟩
  |a::l,b::m,x,y,h,h2=>⟨h.1,Al.snoc h.2 h2⟩
  | [],_::_,_,_,h,_=>h.elim
  |_::_,[],_,_,h,_=>h.elim
theorem Al.next {α β:Type} {R:α→β→Prop} {l:List α} {m:List β} {i:Nat} {x:α} {y:β} (h:Al R (l.take i) m) (hx:l[i]?=some x) (hr:R x y):Al R (l.take (i+1)) (m++[y]):=by rw [yK hx];exact h.snoc hr
theorem lE {α:Type} {Q:α→Prop} {l:List α} {i:Nat} {x:α} (h:∀a∈l.take i,Q a) (hx:l[i]?=some x) (hq:Q x):∀a∈l.take (i+1),Q a:=by
  rw [yK hx]
  intro a ha
  rcases List.mem_append.1 ha with h1|h1
  · exact h a h1
  · rw [List.mem_singleton.1 h1];exact hq
theorem flatI_nil2:flat Fw.encI []=[]:=rfl
theorem in_xx {l:List Ins} {i:Nat} {x:Ins} (h:l[i]?=some x):(flat wV l)[i*5+0]?=some (.int .i64 x.x):=yL (off:=0) xY h rfl
section
variable {g:Grs} {S:Int→Prop} {a:Atm}
theorem at_1 (h:a.k=1):atS g S a↔0≤a.n∧a.n≤1048576∧(a.n<2∨S a.n):=by
  constructor
  · rintro (⟨_,h1,h2,h3⟩| ⟨h1,_⟩| ⟨h1,_⟩)
    · exact ⟨h1,h2,h3⟩
    · omega
    · omega
  · exact fun ⟨h1,h2,h3⟩=>.inl ⟨h,h1,h2,h3⟩
theorem at_2 (h:a.k=2):atS g S a↔-4611686018427387904≤a.n∧a.n<4611686018427387904:=by
  constructor
  · rintro (⟨h1,_⟩| ⟨_,h1,h2⟩| ⟨h1,_⟩)
    · omega
    · exact ⟨h1,h2⟩
    · omega
  · exact fun ⟨h1,h2⟩=>.inr (.inl ⟨h,h1,h2⟩)
theorem at_3 (h:a.k=3):atS g S a↔0≤a.n∧a.n<g.ss.l.length:=by
  constructor
  · rintro (⟨h1,_⟩| ⟨h1,_⟩| ⟨_,h1,h2⟩)
    · omega
    · omega
    · exact ⟨h1,h2⟩
  · exact fun ⟨h1,h2⟩=>.inr (.inr ⟨h,h1,h2⟩)
theorem at_x (h:¬a.k=1) (h2:¬a.k=2) (h3:¬a.k=3):¬atS g S a:=by
  rintro (⟨h1,_⟩| ⟨h1,_⟩| ⟨h1,_⟩)<;>omega
theorem gD {l:List Atm} (ha:a∈l) (h:¬atS g S a):false=true↔∀a∈l,atS g S a:=⟨fun e=>(by cases e),fun e=>absurd (e a ha) h⟩
end
section
attribute [local irreducible] Code.wp wpList Calls Ex Op1 sat bat blk cb own Go.Fw.mp Go.Fw.mpO Go.Fw.mpI Go.Fw.mpE Go.Fw.itr HS Rd Ret wkD Hp Cl Cls Exit.then Exit.inBlock Exit.noGoto bodyPost Go.Fw.flat wk2 Go.Fw.all Go.Fw.owns wpOp
attribute [local irreducible] sk mpK sko mvO xM geS xC

theorem qX (w0:World) (g:Grs) (f:Gr) (n:Nat) (ins:Nat) (bl:Blc) (l:Vec Atm) (hR:RdG w0 f) (hE:EdgS f) (hbl:f.bs.l[n]?=some bl) (hl:f.bs.l.length≤1048576) (hlt:∀bl∈f.bs.l,bl.e.to.l.length≤1048576) (hL:RdV w0 zV l) :
    Ret Tryz.prog 37 #[.agg (zZ g).toArray,.agg (wE f).toArray,.int .i64 n,.int .i64 ins,.slice l.o l.l.length l.c] w0 (fun v w=>∃b,v= .bool b∧(b=true↔∀a∈l.l,atS g (vK (BS f n) bl ins) a)∧Kp w0 noM w):=by
  have hH:HS w0 noM [] w0:=HS.init w0 noM
  have hn:n<f.bs.l.length:=(List.getElem?_eq_some_iff.1 hbl).1
  have hspB:Sp f.bs.o f.bs.l.length:=hR.1.1.sp (sz:=6) (zH yS _) (by omega)
  have hle:=hL.le
  have hspL:Sp l.o l.l.length:=hL.1.sp (sz:=2) (zH xN _) (by omega)
  have hRb:=hR.2 bl (List.mem_of_getElem? hbl)
  have hvb:=yI yS hbl
  (refine ENT (N:=80) Tryz.func37 Tryz.ntmps37 ?_;intro a hA)
  repeat' (first|(refine QT ?_;clear hA a;intro a hA)|(refine BT ?_;clear hA hH;rintro _ w ⟨bN,rfl,hH⟩ a hA)|refine CT ?_|fail)
  obtain ⟨b5,b6,hH,hA⟩:∃b5 b6,HS w0 noM [cb b6 44 (wE f),cb b5 25 (zZ g)] w∧Sl 80 [(11,.int .i64 (0:Nat)),(5,.pointer (some (bat b5 0))),(6,.pointer (some (bat b6 0))),(2,.int .i64 n),(3,.int .i64 ins),(4,.slice l.o l.l.length l.c),(10,.bool false)] a:=⟨_,_,hH,(hA.sub SBT)⟩
  refine zU (S:=Nat) (fun i a w=>(i≤l.l.length∧∀a∈l.l.take i,atS g (vK (BS f n) bl ins) a)∧HS w0 noM [cb b6 44 (wE f),cb b5 25 (zZ g)] w∧(Sl 80 [(11,.int .i64 i),(5,.pointer (some (bat b5 0))),(6,.pointer (some (bat b6 0))),(2,.int .i64 n),(3,.int .i64 ins),(4,.slice l.o l.l.length l.c),(10,.bool false)] a)) (fun i=>l.l.length - i)
    (fun a w=>(∀a∈l.l,atS g (vK (BS f n) bl ins) a)∧HS w0 noM [] w∧Sl 80 [] a) 0 ⟨⟨Nat.zero_le _,fun a ha=>absurd ha (by rw [List.take_zero];exact List.not_mem_nil)⟩,hH,hA⟩ ?_ ?_
  · clear hA hH
    rintro i a w ⟨⟨hi,hall⟩,hH,hA⟩
    by_cases hlt2:i<l.l.length
    rotate_left
    · obtain rfl:i=l.l.length:=by omega
      repeat' (first|(refine QT ?_;clear hA a;intro a hA)|refine CT ?_|(refine DT ?_ ?_<;>intro hc<;>try (exfalso;omega))|fail)
      rw [List.take_length] at hall
      exact ⟨hall,hH.tail.tail,(hA.sub SBT)⟩
    obtain ⟨x,hx⟩:∃x,l.l[i]?=some x:=⟨_,List.getElem?_eq_getElem hlt2⟩
    have hxm:=List.mem_of_getElem? hx
    have hvx:=yI xN hx
    repeat' (first|(refine GT ?_ ?_<;>intro hg<;>clear hA a<;>intro a hA<;>(first|exact FA|replace hg:=dTr hg|replace hg:=dFa hg|skip))|(refine XT ?_;apply XE;(first|(apply zB;rfl;rfl;omega;exact hspL)|(apply zA (vs:=zV x);rfl;rfl;exact yP hL.1 id hvx));clear hA a;intro a hA)|(refine QT ?_;clear hA a;intro a hA)|(refine BT ?_;clear hA hH;rintro _ w ⟨bN,rfl,hH⟩ a hA)|(refine SAT (zV x) hA hH ?_;clear hH;intro w hH)|refine CT ?_|(refine DT ?_ ?_<;>intro hc<;>try (exfalso;omega))|fail)
    all_goals first
      |exact rt1 (.inl rfl) rfl hA rfl ⟨_,rfl,gD hxm (fun h=>by have:=(at_1 (by assumption)).1 h;omega),hH.kp⟩
      |exact rt1 (.inl rfl) rfl hA rfl ⟨_,rfl,gD hxm (fun h=>by have:=(at_2 (by assumption)).1 h;omega),hH.kp⟩
      |exact rt1 (.inl rfl) rfl hA rfl ⟨_,rfl,gD hxm (fun h=>by have:=(at_3 (by assumption)).1 h;omega),hH.kp⟩
      |exact rt1 (.inl rfl) rfl hA rfl ⟨_,rfl,gD hxm (at_x (by assumption) (by assumption) (by assumption)),hH.kp⟩
      |exact ⟨i+1,⟨⟨hlt2,lE hall hx ((at_2 (by assumption)).2 ⟨by omega,by omega⟩)⟩,hH.tail,(hA.sub SBT)⟩,by omega⟩
      |exact ⟨i+1,⟨⟨hlt2,lE hall hx ((at_3 (by assumption)).2 ⟨by omega,by omega⟩)⟩,hH.tail,(hA.sub SBT)⟩,by omega⟩
      |skip
    have hk1:x.k=1:=by assumption
    (refine zO [(0,1),(1,1),(2,1),(3,1),(4,1),(5,1),(6,1),(7,1),(8,1),(9,1),(10,1),(11,1),(12,0),(13,1),(14,1),(15,1),(16,1),(17,1),(18,1),(19,1),(20,0),(21,1)] mixed (by decide +kernel) hH ?_;replace hH:=hH.drew)
    by_cases hx1:1<x.n
    rotate_left
    · repeat' (first|(refine GT ?_ ?_<;>intro hg<;>clear hA a<;>intro a hA<;>(first|exact FA|replace hg:=dTr hg|replace hg:=dFa hg|skip))|(refine QT ?_;clear hA a;intro a hA)|refine CT ?_|(refine DSK ?_;clear hA a;intro a hA)|fail)
      exact ⟨i+1,⟨⟨hlt2,lE hall hx ((at_1 hk1).2 ⟨by omega,by omega,.inl (by omega)⟩)⟩,hH.tail,(hA.sub SBT)⟩,by omega⟩
    repeat' (first|(refine GT ?_ ?_<;>intro hg<;>clear hA a<;>intro a hA<;>(first|exact FA|replace hg:=dTr hg|replace hg:=dFa hg|skip))|(refine XT ?_;apply XE;(first|(apply zB;rfl;rfl;omega;exact hspB)|(apply zA (vs:=zL bl);rfl;rfl;exact yP hR.1.1 id hvb));clear hA a;intro a hA)|(refine QT ?_;clear hA a;intro a hA)|fail)
    (refine yC hA rfl rfl rfl (by decide) (zE rfl rfl rfl (jX _ bl x.n ins (hRb.1.keep hH.kp) (hRb.2.1.keep hH.kp))) ?_;clear hA;rintro _ w ⟨bb,rfl,hbb,hk⟩;replace hH:=hH.keep hk;clear hk;refine ⟨STT,?_⟩;intro a hA)
    cases bb with
    | true=>
      repeat' (first|(refine GT ?_ ?_<;>intro hg<;>clear hA a<;>intro a hA<;>(first|exact FA|replace hg:=dTr hg|replace hg:=dFa hg|skip))|(refine QT ?_;clear hA a;intro a hA)|refine CT ?_|(refine DSK ?_;clear hA a;intro a hA)|fail)
      exact ⟨i+1,⟨⟨hlt2,lE hall hx ((at_1 hk1).2 ⟨by omega,by omega,.inr (.inr (hbb.1 rfl))⟩)⟩,hH.tail,(hA.sub SBT)⟩,by omega⟩
    |false=>
    have hnb:¬(x.n∈bl.ps.l∨x.n∈(bl.is.l.take ins).map Ins.x):=fun h=>(by cases hbb.2 h)
    repeat' (first|(refine GT ?_ ?_<;>intro hg<;>clear hA a<;>intro a hA<;>(first|exact FA|replace hg:=dTr hg|replace hg:=dFa hg|skip))|(refine XT ?_;apply XE;(first|(apply zA (vs:=wE f);rfl;rfl;exact zD MEMT));clear hA a;intro a hA)|(refine QT ?_;clear hA a;intro a hA)|fail)
    (refine yC hA rfl rfl rfl (by decide) (zE rfl rfl rfl (avoids_spec _ f n x.n (hR.keep hH.kp) hE hn hl hlt)) ?_;clear hA;rintro _ w ⟨bb,rfl,hba,hk⟩;replace hH:=hH.keep hk;clear hk;refine ⟨STT,?_⟩;intro a hA)
    cases bb with
    | true=>
      repeat' (first|(refine QT ?_;clear hA a;intro a hA)|refine CT ?_|fail)
      exact rt1 (.inl rfl) rfl hA rfl ⟨_,rfl,gD hxm (fun h=>((at_1 hk1).1 h).2.2.elim (fun h=>by omega) (fun h=>h.elim (hba.1 rfl) hnb)),hH.kp⟩
    |false=>
    repeat' (first|(refine QT ?_;clear hA a;intro a hA)|refine CT ?_|fail)
    exact ⟨i+1,⟨⟨hlt2,lE hall hx ((at_1 hk1).2 ⟨by omega,by omega,.inr (.inl (Classical.not_not.1 fun h=>(by cases hba.2 h)))⟩)⟩,hH.tail,(hA.sub SBT)⟩,by omega⟩
  clear hA hH
  rintro a w ⟨hall,hH,hA⟩
  repeat' (first|(refine QT ?_;clear hA a;intro a hA)|refine CT ?_|fail)
  exact rt1 (.inl rfl) rfl hA rfl ⟨_,rfl,iff_of_true rfl hall,hH.kp⟩
end
structure BlS (f:Gr) (n:Nat) (bl:Blc):Prop where
  e:EndP bl.e
  c:come f n
  t:∀t∈bl.e.to.l,(n:Int)<t.b∧t.b<f.bs.l.length∧t.a.l.length=(f.bs.l.getD t.b.toNat rG).ps.l.length
structure ShP (f:Gr):Prop where
  ne:0<f.bs.l.length
  first:(f.bs.l.getD 0 rG).ps.l.length=0
  blk:∀(n:Nat) (bl:Blc),f.bs.l[n]?=some bl→BlS f n bl
  ev:EvOk (f.bs.l.flatMap bvs)
theorem oY {f:Gr} (h:¬ShP f):false=true↔ShP f:=⟨fun e=>(by cases e),fun e=>absurd e h⟩
def cmS (f:Gr) (n k:Nat):Prop:=k=0∨∃m bl,m<n∧f.bs.l[m]?=some bl∧goes bl k
theorem cm_next {f:Gr} {n:Nat} {bl:Blc} (hbl:f.bs.l[n]?=some bl) (k:Nat):cmS f (n+1) k↔cmS f n k∨∃t∈bl.e.to.l.take bl.e.to.l.length,t.b=(k:Int):=by
  rw [List.take_length]
  constructor
  · rintro (h0| ⟨m,b,hm,hb,hg⟩)
    · exact .inl (.inl h0)
    · by_cases e:m=n
      · subst e
        rw [hbl] at hb;cases hb
        exact .inr hg
      · exact .inl (.inr ⟨m,b,by omega,hb,hg⟩)
  · rintro ((h0| ⟨m,b,hm,hb,hg⟩)|hg)
    · exact .inl h0
    · exact .inr ⟨m,b,by omega,hb,hg⟩
    · exact .inr ⟨n,bl,by omega,hbl,hg⟩
theorem bvs_le (bl:Blc):bl.ps.l.length+bl.is.l.length+2+bl.e.to.l.length≤uZ bl:=by
  have h1:bl.is.l.length≤(bl.is.l.map fun i=>1+i.r.a.l.length).sum:=by
    generalize bl.is.l=l
    induction l with
    |nil=>exact Nat.le_refl _
    |cons x l ih=>rw [List.map_cons,List.sum_cons,List.length_cons];omega
  have h2:bl.e.to.l.length≤(bl.e.to.l.map fun t=>1+t.a.l.length).sum:=by
    generalize bl.e.to.l=l
    induction l with
    |nil=>exact Nat.le_refl _
    |cons x l ih=>rw [List.map_cons,List.sum_cons,List.length_cons];omega
  unfold uZ
  omega
theorem dE (f:Gr):∀n,n≤f.bs.l.length→(evs f n).length+2*n≤dP f n
  | 0,_=>by
    have h1:evs f 0=[]:=by unfold evs;rw [List.take_zero];rfl
    rw [h1];exact Nat.zero_le _
  | n+1,h=>by
    have hbl:f.bs.l[n]?=some (f.bs.l[n]'(by omega)):=List.getElem?_eq_getElem (by omega)
    have ih:=dE f n (by omega)
    have:=bvs_le (f.bs.l[n]'(by omega))
    rw [qO hbl,pI hbl,List.length_append]
    unfold bvs
    rw [List.length_append,List.length_map]
    omega
theorem aV (f:Gr):evs f 0=[]:=by unfold evs;rw [List.take_zero];rfl
theorem blkps {l:List Blc} {b:Nat} (h:b<l.length):(flat zL l)[b*6+0]?=some (.slice (l.getD b rG).ps.o (l.getD b rG).ps.l.length (l.getD b rG).ps.c):=by
  refine yL (off:=0) yS (List.getElem?_eq_getElem h) ?_
  rw [List.getD_eq_getElem?_getD,List.getElem?_eq_getElem h]
  rfl
def evAt (es:List Int) (i:Nat):Prop:=2≤es.getD i 0∧es.getD i 0≤1048576∧∀k,k<i→es.getD i 0≠es.getD k 0
theorem ev_of {es:List Int} (h:∀i,i<es.length→evAt es i):EvOk es:=by
  refine ⟨?_,fun x hx=>?_⟩
  · refine List.pairwise_iff_getElem.2 fun i j hi hj hij=>?_
    have h1:=(h j hj).2.2 i hij
    rw [List.getD_eq_getElem?_getD,List.getD_eq_getElem?_getD,List.getElem?_eq_getElem hj,List.getElem?_eq_getElem hi] at h1
    exact fun e=>h1 e.symm
  · obtain ⟨k,hk,rfl⟩:=List.getElem_of_mem hx
    have h1:=h k hk
    unfold evAt at h1
    rw [List.getD_eq_getElem?_getD,List.getElem?_eq_getElem hk] at h1
    exact ⟨h1.1,h1.2.1⟩
theorem ev_at {es:List Int} (h:EvOk es) {i:Nat} (hi:i<es.length):evAt es i:=by
  have h1:=h.rg (es[i]) (List.getElem_mem hi)
  have h2:es.getD i 0=es[i]:=by rw [List.getD_eq_getElem?_getD,List.getElem?_eq_getElem hi];rfl
  refine ⟨by omega,by omega,fun k hk e=>?_⟩
  have h3:es.getD k 0=es[k]'(by omega):=by rw [List.getD_eq_getElem?_getD,List.getElem?_eq_getElem (by omega)];rfl
  rw [h2,h3] at e
  exact List.pairwise_iff_getElem.1 h.nd k i (by omega) hi hk e.symm
section
attribute [local irreducible] Code.wp wpList Calls Ex Op1 sat bat blk cb own Go.Fw.mp Go.Fw.mpO Go.Fw.mpI Go.Fw.mpE Go.Fw.itr HS Rd Ret wkD Hp Cl Cls Exit.then Exit.inBlock Exit.noGoto bodyPost Go.Fw.flat wk2 Go.Fw.all Go.Fw.owns wpOp
attribute [local irreducible] sk mpK sko mvO xM geS xC cmS evs

theorem shape_spec (w0:World) (f:Gr) (hR:RdG w0 f) (hl:f.bs.l.length≤1048576) (hlt:∀bl∈f.bs.l,bl.e.to.l.length≤1048576) (hsz:grN f≤65536):Ret Tryz.prog 35 #[.agg (wE f).toArray] w0 (fun v w=>∃b,v= .bool b∧(b=true↔ShP f)∧Kp w0 noM w):=by
  have hH:HS w0 noM [] w0:=HS.init w0 noM
  have hspB:Sp f.bs.o f.bs.l.length:=hR.1.1.sp (sz:=6) (zH yS _) (by omega)
  (refine ENT (N:=151) Tryz.func35 Tryz.ntmps35 ?_;intro a hA)
  by_cases h0:f.bs.l.length=0
  · repeat' (first|(refine GT ?_ ?_<;>intro hg<;>clear hA a<;>intro a hA<;>(first|exact FA|replace hg:=dTr hg|replace hg:=dFa hg|skip))|(refine QT ?_;clear hA a;intro a hA)|(refine BT ?_;clear hA hH;rintro _ w ⟨bN,rfl,hH⟩ a hA)|refine CT ?_|fail)
    all_goals exact rt1 (.inl rfl) rfl hA rfl ⟨_,rfl,oY (fun h=>by have:=h.ne;omega),hH.kp⟩
  have hps0:=blkps (l:=f.bs.l) (b:=0) (by omega)
  have hput0:Fw.put (flat Fw.encB (List.replicate f.bs.l.length false)) (Int.toNat 0*1) [.bool true]=flat Fw.encB ((List.replicate f.bs.l.length false).set 0 true):=nV (by rw [List.length_replicate];omega)
  repeat' (first|(refine GT ?_ ?_<;>intro hg<;>clear hA a<;>intro a hA<;>(first|exact FA|replace hg:=dTr hg|replace hg:=dFa hg|skip))|(refine XT ?_;apply XE;(first|(apply zF;rfl;exact yG hR.1.1 id hps0));clear hA a;intro a hA)|(refine QT ?_;clear hA a;intro a hA)|(refine BT ?_;clear hA hH;rintro _ w ⟨bN,rfl,hH⟩ a hA)|(refine LT ?_;clear hA hH;rintro _ w ⟨oN,rfl,hH⟩ a hA)|(apply zJ hA rfl rfl (by decide);apply nH Fw.encB false (n:=f.bs.l.length);rfl;rfl;omega;omega;(unfold maxLen;omega);omega;rfl;rfl;exact hH;clear hA hH;rintro _ w ⟨oC,rfl,hH⟩ a hA)|(apply zT hA rfl rfl;apply vB;rfl;rfl;rfl;exact hH;(repeat constructor);(rw [zH tS,List.length_replicate];show 0*1< _;omega);exact hput0;clear hH;rintro _ w hH)|refine CT ?_|(refine DT ?_ ?_<;>intro hc<;>try (exfalso;omega))|fail)
  · exact rt1 (.inl rfl) rfl hA rfl ⟨_,rfl,oY (fun h=>by have:=h.first;omega),hH.kp⟩
  obtain ⟨b1,oV,hH,hA⟩:∃b1 oV,HS w0 noM [own 3 1 oV 0 0 [],own 4 1 oC f.bs.l.length f.bs.l.length (flat Fw.encB ((List.replicate f.bs.l.length false).set 0 true)),cb b1 44 (wE f)] w∧Sl 151 [(5,.int .i64 (0:Nat)),(4,.slice oV 0 0),(3,.slice oC f.bs.l.length f.bs.l.length),(1,.pointer (some (bat b1 0))),(2,.bool false)] a:=⟨_,_,hH,(hA.sub SBT)⟩
  have hcome0:=come_0 f.bs.l.length
  obtain ⟨cs0,hcs0⟩:∃cs,cs=(List.replicate f.bs.l.length false).set 0 true:=⟨_,rfl⟩
  rw [←hcs0] at hH hcome0
  have hlen0:cs0.length=f.bs.l.length:=by rw [hcs0,List.length_set,List.length_replicate]
  clear hcs0
  have hfirst:(f.bs.l.getD 0 rG).ps.l.length=0:=by omega
  refine zU (S:=Nat) (fun n a w=>∃cs oV cV,(n≤f.bs.l.length∧cs.length=f.bs.l.length∧ComeB cs (cmS f n)∧∀m,m<n→∀bl,f.bs.l[m]?=some bl→BlS f m bl)∧HS w0 noM [own 3 1 oV (evs f n).length cV (flat Fw.encI (evs f n)),own 4 1 oC f.bs.l.length f.bs.l.length (flat Fw.encB cs),cb b1 44 (wE f)] w∧Sl 151 [(5,.int .i64 n),(4,.slice oV (evs f n).length cV),(3,.slice oC f.bs.l.length f.bs.l.length),(1,.pointer (some (bat b1 0))),(2,.bool false)] a) (fun n=>f.bs.l.length - n)
    (fun a w=>∃oV cV,(∀m bl,f.bs.l[m]?=some bl→BlS f m bl)∧HS w0 noM [own 3 1 oV (evs f f.bs.l.length).length cV (flat Fw.encI (evs f f.bs.l.length))] w∧Sl 151 [(4,.slice oV (evs f f.bs.l.length).length cV),(2,.bool false)] a) 0
    ⟨cs0,oV,0,⟨Nat.zero_le _,hlen0,uE hcome0 (fun k hk=>⟨fun h=>by unfold cmS;exact .inl h,fun h=>by unfold cmS at h;exact h.elim id (fun ⟨m,bl,hm,_⟩=>absurd hm (Nat.not_lt_zero _))⟩),fun m hm=>absurd hm (Nat.not_lt_zero _)⟩,(by rw [aV,flatI_nil2,List.length_nil];exact hH),(by rw [aV];exact (hA.sub SBT))⟩ ?_ ?_
  · clear hA hH hcome0 hlen0
    rintro n a w ⟨cs,oV,cV,⟨hn,hcl,hcs,hok⟩,hH,hA⟩
    by_cases hlt2:n<f.bs.l.length
    rotate_left
    · obtain rfl:n=f.bs.l.length:=by omega
      repeat' (first|(refine QT ?_;clear hA a;intro a hA)|refine CT ?_|(refine DT ?_ ?_<;>intro hc<;>try (exfalso;omega))|fail)
      exact ⟨oV,cV,fun m bl hm=>hok m (List.getElem?_eq_some_iff.1 hm).1 bl hm,(hH.rm 1).rm 1,(hA.sub SBT)⟩
    obtain ⟨bl,hbl⟩:∃x,f.bs.l[n]?=some x:=⟨_,List.getElem?_eq_getElem hlt2⟩
    have hblm:=List.mem_of_getElem? hbl
    have hRb:=hR.2 bl hblm
    have hlt3:=hlt bl hblm
    have hvb:=yI yS hbl
    have hspT:Sp bl.e.to.o bl.e.to.l.length:=hRb.2.2.2.2.2.1.1.sp (sz:=2) (zH xW _) (by omega)
    have hev:=dE f n hn
    have hnx:=pI hbl
    have hle1:=dO f (n+1)
    have hbv:=bvs_le bl
    have hflag:=eY (cs:=cs) (k:=n) (by omega)
    have hii:=hcs n (by omega)
    obtain ⟨fl,hfl⟩:∃b,b=cs.getD n false:=⟨_,rfl⟩
    rw [←hfl] at hflag hii
    clear hfl
    have hsubE:∀i v,(vJ bl.e)[i]?=some v→(zL bl)[0+2+i]?=some v:=fun i v h=>by rw [Nat.zero_add,Nat.add_comm];exact h
    repeat' (first|(refine XT ?_;apply XE;(first|(apply zB;rfl;rfl;omega;exact hspB)|(apply zA (vs:=zL bl);rfl;rfl;exact yP hR.1.1 id hvb)|(apply zA (vs:=vJ bl.e);rfl;rfl;exact qW MEMT hsubE));clear hA a;intro a hA)|(refine QT ?_;clear hA a;intro a hA)|(refine BT ?_;clear hA hH;rintro _ w ⟨bN,rfl,hH⟩ a hA)|(refine SAT (zL bl) hA hH ?_;clear hH;intro w hH)|refine CT ?_|(refine DT ?_ ?_<;>intro hc<;>try (exfalso;omega))|fail)
    (refine zJ hA rfl rfl (by decide) (zE rfl rfl rfl (dI _ bl.e (hRb.2.2.2.2.1.keep hH.kp))) ?_;clear hA;rintro _ w ⟨be,rfl,hbe,hk⟩ a hA;replace hH:=hH.keep hk;clear hk)
    cases be with
    | false=>
      repeat' (first|(refine GT ?_ ?_<;>intro hg<;>clear hA a<;>intro a hA<;>(first|exact FA|replace hg:=dTr hg|replace hg:=dFa hg|skip))|(refine QT ?_;clear hA a;intro a hA)|refine CT ?_|fail)
      exact rt1 (.inl rfl) rfl hA rfl ⟨_,rfl,oY (fun h=>by cases hbe.2 (h.blk n bl hbl).e),hH.kp⟩
    |true=>
    have hEnd:=hbe.1 rfl
    cases fl with
    | false=>
      repeat' (first|(refine GT ?_ ?_<;>intro hg<;>clear hA a<;>intro a hA<;>(first|exact FA|replace hg:=dTr hg|replace hg:=dFa hg|skip))|(refine XT ?_;apply XE;(first|(apply zF;rfl;apply xJ;exact MEMT;exact hflag));clear hA a;intro a hA)|(refine QT ?_;clear hA a;intro a hA)|refine CT ?_|fail)
      exact rt1 (.inl rfl) rfl hA rfl ⟨_,rfl,oY (fun h=>by have h1:=(h.blk n bl hbl).c;have h2:=hii.2 (by unfold cmS;exact h1);cases h2),hH.kp⟩
    |true=>
    have hcome:come f n:=by have:=hii.1 rfl;unfold cmS at this;exact this
    repeat' (first|(refine GT ?_ ?_<;>intro hg<;>clear hA a<;>intro a hA<;>(first|exact FA|replace hg:=dTr hg|replace hg:=dFa hg|skip))|(refine XT ?_;apply XE;(first|(apply zF;rfl;apply xJ;exact MEMT;exact hflag));clear hA a;intro a hA)|(refine QT ?_;clear hA a;intro a hA)|refine CT ?_|fail)
    obtain ⟨b6,hb6⟩:∃x,x=bN:=⟨_,rfl⟩
    rw [←hb6] at hA hH
    clear hb6 bN
    refine zU (S:=Nat) (fun j a w=>∃cs,(j≤bl.e.to.l.length∧cs.length=f.bs.l.length∧ComeB cs (fun k=>cmS f n k∨∃t∈bl.e.to.l.take j,t.b=(k:Int))∧∀t∈bl.e.to.l.take j,(n:Int)<t.b∧t.b<f.bs.l.length∧t.a.l.length=(f.bs.l.getD t.b.toNat rG).ps.l.length)∧HS w0 noM [cb b6 53 (zL bl),own 3 1 oV (evs f n).length cV (flat Fw.encI (evs f n)),own 4 1 oC f.bs.l.length f.bs.l.length (flat Fw.encB cs),cb b1 44 (wE f)] w∧Sl 151 [(7,.int .i64 j),(6,.pointer (some (bat b6 0))),(5,.int .i64 n),(4,.slice oV (evs f n).length cV),(3,.slice oC f.bs.l.length f.bs.l.length),(1,.pointer (some (bat b1 0))),(2,.bool false)] a) (fun j=>bl.e.to.l.length - j)
      (fun a w=>∃cs,(cs.length=f.bs.l.length∧ComeB cs (cmS f (n+1))∧BlS f n bl)∧HS w0 noM [cb b6 53 (zL bl),own 3 1 oV (evs f n).length cV (flat Fw.encI (evs f n)),own 4 1 oC f.bs.l.length f.bs.l.length (flat Fw.encB cs),cb b1 44 (wE f)] w∧Sl 151 [(6,.pointer (some (bat b6 0))),(5,.int .i64 n),(4,.slice oV (evs f n).length cV),(3,.slice oC f.bs.l.length f.bs.l.length),(1,.pointer (some (bat b1 0))),(2,.bool false)] a) 0
      ⟨cs,⟨Nat.zero_le _,hcl,uE hcs fun k hk=>⟨.inl,fun h=>h.elim id (fun ⟨t,ht,_⟩=>absurd ht (by rw [List.take_zero];exact List.not_mem_nil))⟩,fun t ht=>absurd ht (by rw [List.take_zero];exact List.not_mem_nil)⟩,hH,(hA.sub SBT)⟩ ?_ ?_
    · clear hA hH hcs hcl hflag hii
      rintro j a w ⟨cs,⟨hj,hcl,hcs,hts⟩,hH,hA⟩
      by_cases hjl:j<bl.e.to.l.length
      rotate_left
      · obtain rfl:j=bl.e.to.l.length:=by omega
        repeat' (first|(refine QT ?_;clear hA a;intro a hA)|refine CT ?_|(refine DT ?_ ?_<;>intro hc<;>try (exfalso;omega))|fail)
        rw [List.take_length] at hts
        exact ⟨cs,⟨hcl,uE hcs fun k hk=>(cm_next hbl k).symm,⟨hEnd,hcome,hts⟩⟩,hH,(hA.sub SBT)⟩
      obtain ⟨t,ht⟩:∃x,bl.e.to.l[j]?=some x:=⟨_,List.getElem?_eq_getElem hjl⟩
      have htm:=List.mem_of_getElem? ht
      have hvt:=yI xW ht
      repeat' (first|(refine XT ?_;apply XE;(first|(apply zB;rfl;rfl;omega;exact hspT)|(apply zA (vs:=uD t);rfl;rfl;exact yP hRb.2.2.2.2.2.1.1 id hvt));clear hA a;intro a hA)|(refine QT ?_;clear hA a;intro a hA)|(refine BT ?_;clear hA hH;rintro _ w ⟨bN,rfl,hH⟩ a hA)|(refine SAT (uD t) hA hH ?_;clear hH;intro w hH)|refine CT ?_|(refine DT ?_ ?_<;>intro hc<;>try (exfalso;omega))|fail)
      (refine zO [(0,1),(1,1),(2,1),(3,1),(4,1),(5,1),(6,1),(7,1),(8,1),(9,1),(10,1),(11,1),(12,1),(13,1),(14,1),(15,1),(16,1),(17,1),(18,1),(19,1),(20,1),(21,1),(22,1),(23,1),(24,1),(25,1)] mixed (by decide +kernel) hH ?_;replace hH:=hH.drew)
      by_cases hin:(n:Int)<t.b∧t.b<f.bs.l.length
      rotate_left
      · repeat' (first|(refine GT ?_ ?_<;>intro hg<;>clear hA a<;>intro a hA<;>(first|exact FA|replace hg:=dTr hg|replace hg:=dFa hg|skip))|(refine QT ?_;clear hA a;intro a hA)|refine CT ?_|fail)
        all_goals exact rt1 (.inl rfl) rfl hA rfl ⟨_,rfl,oY (fun h=>hin ⟨((h.blk n bl hbl).t t htm).1,((h.blk n bl hbl).t t htm).2.1⟩),hH.kp⟩
      obtain ⟨hin1,hin2⟩:=hin
      have hpt:=blkps (l:=f.bs.l) (b:=t.b.toNat) (by omega)
      have htn:t.b.toNat<cs.length:=by omega
      have hput:=nV htn
      repeat' (first|(refine GT ?_ ?_<;>intro hg<;>clear hA a<;>intro a hA<;>(first|exact FA|replace hg:=dTr hg|replace hg:=dFa hg|skip))|(refine XT ?_;apply XE;(first|(apply zC;rfl;rfl;omega;omega;exact hspB)|(apply zF;rfl;exact yG hR.1.1 id hpt));clear hA a;intro a hA)|(refine QT ?_;clear hA a;intro a hA)|(apply zT hA rfl rfl;apply vB;rfl;rfl;rfl;exact hH;(repeat constructor);(rw [zH tS];omega);exact hput;clear hH;rintro _ w hH)|refine CT ?_|(refine DT ?_ ?_<;>intro hc<;>try (exfalso;omega))|fail)
      · exact rt1 (.inl rfl) rfl hA rfl ⟨_,rfl,oY (fun h=>by have:=((h.blk n bl hbl).t t htm).2.2;omega),hH.kp⟩
      exact ⟨j+1,⟨_,⟨hjl,by rw [List.length_set];exact hcl,uE (jU hcs) (fun k hk=>⟨fun h=>h.elim (fun h=>h.elim .inl (fun h=>.inr ((mJ ht k).2 (.inl h)))) (fun h=>.inr ((mJ ht k).2 (.inr (by omega)))),fun h=>h.elim (fun h=>.inl (.inl h)) (fun h=>((mJ ht k).1 h).elim (fun h=>.inl (.inr h)) (fun h=>.inr (by omega)))⟩),lE hts ht ⟨hin1,hin2,by omega⟩⟩,hH.tail,(hA.sub SBT)⟩,by omega⟩
    clear hA hH hcs hcl hflag hii
    rintro a w ⟨cs,⟨hcl,hcs,hblS⟩,hH,hA⟩
    repeat' (first|(refine QT ?_;clear hA a;intro a hA)|refine CT ?_|fail)
    (apply zJ hA rfl rfl (by decide);apply yE;rfl;rfl;exact hH;exact MEMT;exact (hRb.1.keep hH.kp).1;exact (zH Fw.encI_len _);rfl;decide;exact (tC (fun _=>rfl) _);(unfold maxLen;omega);omega;clear hA;rintro _ w ⟨oN,cN,rfl,hH2⟩ a hA;clear hH;have hH:=hH2 _ (by (repeat constructor));clear hH2)
    obtain ⟨es1,hes1⟩:∃es,es=evs f n++bl.ps.l:=⟨_,rfl⟩
    have hel1:es1.length=(evs f n).length+bl.ps.l.length:=by rw [hes1,List.length_append]
    rw [←wY,←hes1,←hel1] at hH
    rw [←hel1] at hA
    have hspI:Sp bl.is.o bl.is.l.length:=hRb.2.1.1.sp (sz:=5) (zH xY _) (by have:=hRb.2.1.le;omega)
    repeat' (first|(refine QT ?_;clear hA a;intro a hA)|refine CT ?_|fail)
    refine zU (S:=Nat) (fun j a w=>∃oV cV,j≤bl.is.l.length∧HS w0 noM [cb b6 53 (zL bl),own 3 1 oV (es1++(bl.is.l.take j).map Ins.x).length cV (flat Fw.encI (es1++(bl.is.l.take j).map Ins.x)),own 4 1 oC f.bs.l.length f.bs.l.length (flat Fw.encB cs),cb b1 44 (wE f)] w∧Sl 151 [(9,.int .i64 j),(6,.pointer (some (bat b6 0))),(5,.int .i64 n),(4,.slice oV (es1++(bl.is.l.take j).map Ins.x).length cV),(3,.slice oC f.bs.l.length f.bs.l.length),(1,.pointer (some (bat b1 0))),(2,.bool false)] a) (fun j=>bl.is.l.length - j)
      (fun a w=>∃oV cV,HS w0 noM [own 3 1 oV (evs f (n+1)).length cV (flat Fw.encI (evs f (n+1))),own 4 1 oC f.bs.l.length f.bs.l.length (flat Fw.encB cs),cb b1 44 (wE f)] w∧Sl 151 [(5,.int .i64 n),(4,.slice oV (evs f (n+1)).length cV),(3,.slice oC f.bs.l.length f.bs.l.length),(1,.pointer (some (bat b1 0))),(2,.bool false)] a) 0
      ⟨oN,cN,Nat.zero_le _,(by rw [List.take_zero,List.map_nil,List.append_nil];exact hH.perm PMT),(by rw [List.take_zero,List.map_nil,List.append_nil];exact (hA.sub SBT))⟩ ?_ ?_
    · clear hA hH
      rintro j a w ⟨oV,cV,hj,hH,hA⟩
      by_cases hjl:j<bl.is.l.length
      rotate_left
      · obtain rfl:j=bl.is.l.length:=by omega
        repeat' (first|(refine QT ?_;clear hA a;intro a hA)|refine CT ?_|(refine DT ?_ ?_<;>intro hc<;>try (exfalso;omega))|fail)
        have he:es1++(bl.is.l.take bl.is.l.length).map Ins.x=evs f (n+1):=by rw [qO hbl,hes1,List.take_length,List.append_assoc];rfl
        rw [he] at hH hA
        exact ⟨oV,cV,hH.tail,(hA.sub SBT)⟩
      obtain ⟨x,hx⟩:∃x,bl.is.l[j]?=some x:=⟨_,List.getElem?_eq_getElem hjl⟩
      have hvx:=in_xx hx
      have hel2:(es1++(bl.is.l.take j).map Ins.x).length=es1.length+j:=by rw [List.length_append,List.length_map,List.length_take];omega
      obtain ⟨es2,hes2⟩:∃es,es=es1++(bl.is.l.take j).map Ins.x:=⟨_,rfl⟩
      rw [←hes2] at hH hA hel2
      have he3:es1++(bl.is.l.take (j+1)).map Ins.x=es2++[x.x]:=by rw [hes2,yK hx,List.map_append,←List.append_assoc];rfl
      repeat' (first|(refine XT ?_;apply XE;(first|(apply zB;rfl;rfl;omega;exact hspI)|(apply zF;rfl;exact yG hRb.2.1.1 id hvx));clear hA a;intro a hA)|(refine QT ?_;clear hA a;intro a hA)|(refine LT ?_;clear hA hH;rintro _ w ⟨oN,rfl,hH⟩ a hA)|(refine AT ?_;clear hA;rintro _ w ⟨oN,cN,rfl,hH2⟩ a hA;clear hH;have hH:=(hH2 _ (by (repeat constructor))).tail;clear hH2)|refine CT ?_|(refine DT ?_ ?_<;>intro hc<;>try (exfalso;omega))|fail)
      have he4:(es2++[x.x]).length=es2.length+1:=by rw [List.length_append];rfl
      rw [uJ,←he4] at hH
      rw [←he4] at hA
      exact ⟨j+1,⟨oN,cN,hjl,(by rw [he3];exact hH),(by rw [he3];exact (hA.sub SBT))⟩,by omega⟩
    clear hA hH
    rintro a w ⟨oV,cV,hH,hA⟩
    repeat' (first|(refine QT ?_;clear hA a;intro a hA)|refine CT ?_|fail)
    exact ⟨n+1,⟨cs,oV,cV,⟨hlt2,hcl,hcs,wH (p:=fun m=>∀bl,f.bs.l[m]?=some bl→BlS f m bl) hok (fun b hb=>by rw [hbl] at hb;cases hb;exact hblS)⟩,hH,(hA.sub SBT)⟩,by omega⟩
  clear hA hH
  rintro a w ⟨oV,cV,hok,hH,hA⟩
  rw [dF] at hA hH
  have hevl:(f.bs.l.flatMap bvs).length≤65536:=by
    have h1:=dE f f.bs.l.length (Nat.le_refl _)
    rw [dF] at h1
    have h2:=dO f f.bs.l.length
    omega
  have hyes:EvOk (f.bs.l.flatMap bvs)→ShP f:=fun h=>⟨by omega,hfirst,hok,h⟩
  obtain ⟨es,hes⟩:∃es,es=f.bs.l.flatMap bvs:=⟨_,rfl⟩
  rw [←hes] at hA hH hevl hyes
  have hev0:ShP f→EvOk es:=fun h=>by rw [hes];exact h.ev
  clear hes
  have hint:∀k,k<es.length→(flat Fw.encI es)[k*1]?=some (.int .i64 (es.getD k 0)):=fun k hk=>vS hk
  repeat' (first|(refine QT ?_;clear hA a;intro a hA)|refine CT ?_|fail)
  refine zU (S:=Nat) (fun i a w=>(i≤es.length∧∀k,k<i→evAt es k)∧HS w0 noM [own 3 1 oV es.length cV (flat Fw.encI es)] w∧Sl 151 [(10,.int .i64 i),(4,.slice oV es.length cV),(2,.bool false)] a) (fun i=>es.length - i)
    (fun a w=>(∀k,k<es.length→evAt es k)∧HS w0 noM [] w∧Sl 151 [] a) 0 ⟨⟨Nat.zero_le _,fun k h=>absurd h (Nat.not_lt_zero _)⟩,hH,(hA.sub SBT)⟩ ?_ ?_
  · clear hA hH
    rintro i a w ⟨⟨hi,hat⟩,hH,hA⟩
    by_cases hlt2:i<es.length
    rotate_left
    · obtain rfl:i=es.length:=by omega
      repeat' (first|(refine QT ?_;clear hA a;intro a hA)|refine CT ?_|(refine DT ?_ ?_<;>intro hc<;>try (exfalso;omega))|fail)
      exact ⟨hat,hH.tail,(hA.sub SBT)⟩
    have hvi:=hint i hlt2
    repeat' (first|(refine GT ?_ ?_<;>intro hg<;>clear hA a<;>intro a hA<;>(first|exact FA|replace hg:=dTr hg|replace hg:=dFa hg|skip))|(refine XT ?_;apply XE;(first|(apply zF;rfl;apply xJ;exact MEMT;exact hvi));clear hA a;intro a hA)|(refine QT ?_;clear hA a;intro a hA)|refine CT ?_|(refine DT ?_ ?_<;>intro hc<;>try (exfalso;omega))|fail)
    · exact rt1 (.inl rfl) rfl hA rfl ⟨_,rfl,oY (fun h=>by have:=(ev_at (hev0 h) hlt2).1;omega),hH.kp⟩
    · exact rt1 (.inl rfl) rfl hA rfl ⟨_,rfl,oY (fun h=>by have:=(ev_at (hev0 h) hlt2).2.1;omega),hH.kp⟩
    refine zU (S:=Nat) (fun k a w=>(k≤i∧∀j,j<k→es.getD i 0≠es.getD j 0)∧HS w0 noM [own 3 1 oV es.length cV (flat Fw.encI es)] w∧Sl 151 [(11,.int .i64 k),(10,.int .i64 i),(4,.slice oV es.length cV),(2,.bool false)] a) (fun k=>i - k)
      (fun a w=>(∀j,j<i→es.getD i 0≠es.getD j 0)∧HS w0 noM [own 3 1 oV es.length cV (flat Fw.encI es)] w∧Sl 151 [(10,.int .i64 i),(4,.slice oV es.length cV),(2,.bool false)] a) 0 ⟨⟨Nat.zero_le _,fun k h=>absurd h (Nat.not_lt_zero _)⟩,hH,(hA.sub SBT)⟩ ?_ ?_
    · clear hA hH
      rintro k a w ⟨⟨hk,hne⟩,hH,hA⟩
      by_cases hlk:k<i
      rotate_left
      · obtain rfl:k=i:=by omega
        repeat' (first|(refine QT ?_;clear hA a;intro a hA)|refine CT ?_|(refine DT ?_ ?_<;>intro hc<;>try (exfalso;omega))|fail)
        exact ⟨hne,hH,(hA.sub SBT)⟩
      have hvk:=hint k (by omega)
      repeat' (first|(refine QT ?_;clear hA a;intro a hA)|refine CT ?_|(refine DT ?_ ?_<;>intro hc<;>try (exfalso;omega))|fail)
      (refine zO [(0,1),(1,1),(2,1),(3,1),(4,1),(5,1),(6,1),(7,1),(8,1)] mixed (by decide +kernel) hH ?_;replace hH:=hH.drew)
      repeat' (first|(refine XT ?_;apply XE;(first|(apply zF;rfl;apply xJ;exact MEMT;first|exact hvi|exact hvk));clear hA a;intro a hA)|(refine QT ?_;clear hA a;intro a hA)|refine CT ?_|(refine DT ?_ ?_<;>intro hc<;>try (exfalso;omega))|fail)
      · exact rt1 (.inl rfl) rfl hA rfl ⟨_,rfl,oY (fun h=>(ev_at (hev0 h) hlt2).2.2 k hlk (by assumption)),hH.kp⟩
      · exact ⟨k+1,⟨⟨hlk,wH hne (by assumption)⟩,hH,(hA.sub SBT)⟩,by omega⟩
    clear hA hH
    rintro a w ⟨hne,hH,hA⟩
    repeat' (first|(refine QT ?_;clear hA a;intro a hA)|refine CT ?_|fail)
    exact ⟨i+1,⟨⟨hlt2,wH hat ⟨by omega,by omega,hne⟩⟩,hH,(hA.sub SBT)⟩,by omega⟩
  clear hA hH
  rintro a w ⟨hat,hH,hA⟩
  repeat' (first|(refine QT ?_;clear hA a;intro a hA)|refine CT ?_|fail)
  exact rt1 (.inl rfl) rfl hA rfl ⟨_,rfl,iff_of_true rfl (hyes (ev_of hat)),hH.kp⟩
end
def gZ (n:Int):Int:=if n=6∨n=9∨n=10∨n=11∨n=16∨n=17∨n=20∨n=21 then 1 else if n=15 then 3 else if n<1∨21<n then 0 else 2
theorem many_ar (n:Int):(0<gZ n∧wO n=gZ n)∨(gZ n=0∧wO n= -1):=by
  unfold gZ wO
  split
  · exact .inl ⟨by decide,rfl⟩
  split
  · exact .inl ⟨by decide,rfl⟩
  split
  · exact .inr ⟨rfl,rfl⟩
  · exact .inl ⟨by decide,rfl⟩
section
variable {g:Grs} {cs:List Int} {mine:Int} {r:Stp}
theorem rform_ns (h:¬r.ns.l=[]) (hk:¬r.k=6):¬FormP g cs mine r:=fun hf=>hf.ns.elim h hk
theorem rform_k (h:¬(1≤r.k∧r.k≤14)):¬FormP g cs mine r:=fun hf=>h ⟨hf.lo,hf.hi⟩
theorem uS (hns:r.ns.l=[]) (h6:¬r.k=6) (h:1≤r.k∧r.k≤14) {w:Int} {p:Prop} (hw:vO cs r=w∧(tM g cs mine r↔p)):FormP g cs mine r↔p∧(r.a.l.length:Int)=w:=
  ⟨fun hf=>⟨hw.2.1 hf.num,hf.want.trans hw.1⟩,fun ⟨h1,h2⟩=>⟨h.1,h.2,hw.2.2 h1,h2.trans hw.1.symm,.inl hns,fun e=>absurd e h6⟩⟩
theorem rform_6 (h:r.k=6):FormP g cs mine r↔labP g r.ns.l∧r.n=0∧(r.a.l.length:Int)=r.ns.l.length:=
  ⟨fun hf=>⟨hf.lab h,(w_6 h).2.1 hf.num,hf.want.trans (w_6 (g:=g) (mine:=mine) h).1⟩,fun ⟨h1,h2,h3⟩=>⟨by omega,by omega,(w_6 h).2.2 h2,h3.trans (w_6 (g:=g) (mine:=mine) h).1.symm,.inr h,fun _=>h1⟩⟩
end
section
attribute [local irreducible] Code.wp wpList Calls Ex Op1 sat bat blk cb own Go.Fw.mp Go.Fw.mpO Go.Fw.mpI Go.Fw.mpE Go.Fw.itr HS Rd Ret wkD Hp Cl Cls Exit.then Exit.inBlock Exit.noGoto bodyPost Go.Fw.flat wk2 Go.Fw.all Go.Fw.owns wpOp
attribute [local irreducible] sk mpK sko mvO xM

theorem many_spec (w0:World) (n:Int):Ret Tryz.prog 68 #[.int .i64 n] w0 (fun v w=>v= .int .i64 (gZ n)∧Kp w0 noM w):=by
  have hH:HS w0 noM [] w0:=HS.init w0 noM
  (refine ENT (N:=21) Tryz.func68 Tryz.ntmps68 ?_;intro a hA)
  repeat' (first|(refine GT ?_ ?_<;>intro hg<;>clear hA a<;>intro a hA<;>(first|exact FA|replace hg:=dTr hg|replace hg:=dFa hg|skip))|(refine QT ?_;clear hA a;intro a hA)|refine CT ?_|(refine DT ?_ ?_<;>intro hc<;>try (exfalso;omega))|fail)
  all_goals exact rt1 (.inl rfl) rfl hA rfl ⟨by congr 1;unfold gZ;(repeat (first|rw [if_pos (by omega)]|rw [if_neg (by omega)])),hH.kp⟩
theorem in_spec (w0:World) (n m:Int):Ret Tryz.prog 69 #[.int .i64 n,.int .i64 m] w0 (fun v w=>v= .bool (decide (0≤n∧n<m))∧Kp w0 noM w):=by
  have hH:HS w0 noM [] w0:=HS.init w0 noM
  (refine ENT (N:=12) Tryz.func69 Tryz.ntmps69 ?_;intro a hA)
  repeat' (first|(refine GT ?_ ?_<;>intro hg<;>clear hA a<;>intro a hA<;>(first|exact FA|replace hg:=dTr hg|replace hg:=dFa hg|skip))|(refine QT ?_;clear hA a;intro a hA)|refine CT ?_|fail)
  · exact rt1 (.inl rfl) rfl hA rfl ⟨by rw [and_dec (p:=0≤n) (by assumption)],hH.kp⟩
  · exact rt1 (.inl rfl) rfl hA rfl ⟨by rw [decide_eq_false];exact fun h=>(by assumption:¬0≤n) h.1,hH.kp⟩
theorem Form_spec (w0:World) (oP:Option Addr) (nP cP:Nat) (g:Grs) (oA:Option Addr) (cA:Nat) (la:List Int) (mine:Int) (r:Stp) (hA0:Rd w0 oA (flat Fw.encI la)) (hla:la.length≤9223372036854775807) (hN:RdV w0 Fw.encI r.ns) :
    Ret Tryz.prog 36 #[.agg (xF oP nP cP g).toArray,.slice oA la.length cA,.int .i64 mine,.agg (zX r).toArray] w0 (fun v w=>∃b,v= .bool b∧(b=true↔FormP g la mine r)∧Kp w0 noM w):=by
  have hH:HS w0 noM [] w0:=HS.init w0 noM
  have hle:=hN.le
  have hspA:Sp oA la.length:=hA0.sp (sz:=1) (zH Fw.encI_len _) (by omega)
  have hspN:Sp r.ns.o r.ns.l.length:=hN.1.sp (sz:=1) (zH Fw.encI_len _) (by omega)
  have hnil:r.ns.l=[]↔r.ns.l.length=0:=List.length_eq_zero_iff.symm
  have har:=many_ar r.n
  (refine ENT (N:=180) Tryz.func36 Tryz.ntmps36 ?_;intro a hA)
  repeat' (first|(refine GT ?_ ?_<;>intro hg<;>clear hA a<;>intro a hA<;>(first|exact FA|replace hg:=dTr hg|replace hg:=dFa hg|skip))|(refine XT ?_;apply XE;(first|(apply zC;rfl;rfl;omega;omega;exact hspA)|(apply zF;rfl;refine yG hA0 id (vS ?_);omega));clear hA a;intro a hA)|(refine QT ?_;clear hA a;intro a hA)|(refine BT ?_;clear hA hH;rintro _ w ⟨bN,rfl,hH⟩ a hA)|(refine zJ hA rfl rfl (by decide) (zE rfl rfl rfl (in_spec _ _ _)) ?_;clear hA;rintro _ w ⟨rfl,hk⟩ a hA;replace hH:=hH.keep hk;clear hk)|(refine zJ hA rfl rfl (by decide) (zE rfl rfl rfl (many_spec _ _)) ?_;clear hA;rintro _ w ⟨rfl,hk⟩ a hA;replace hH:=hH.keep hk;clear hk)|refine CT ?_|(refine DT ?_ ?_<;>intro hc<;>try (exfalso;omega))|fail)
  all_goals (first|exact rt1 (.inl rfl) rfl hA rfl ⟨_,rfl,rN (rform_ns (fun e=>absurd (hnil.1 e) (by omega)) (by assumption)),hH.kp⟩|exact rt1 (.inl rfl) rfl hA rfl ⟨_,rfl,(by rw [uS (hnil.2 (by omega)) (by omega) ⟨by omega,by omega⟩ (w_1 (by omega))];first|exact ⟨fun h=>⟨dTr h,by omega⟩,fun h=>decide_eq_true h.1⟩|exact ⟨fun h=>⟨(by assumption),dTr h⟩,fun h=>decide_eq_true h.2⟩|exact ⟨fun h=>(by cases h),fun h=>absurd h.2 (by omega)⟩|exact ⟨fun h=>(by cases h),fun h=>absurd h.1 (by assumption)⟩),hH.kp⟩|exact rt1 (.inl rfl) rfl hA rfl ⟨_,rfl,(by rw [uS (hnil.2 (by omega)) (by omega) ⟨by omega,by omega⟩ (w_2 (by assumption))];rcases har with ⟨h1,h2⟩| ⟨h1,h2⟩<;>first|exact ⟨fun h=>⟨trivial,(by have:=dTr h;omega)⟩,fun h=>decide_eq_true (by omega)⟩|exact ⟨fun h=>(by cases h),fun h=>absurd h.2 (by omega)⟩|(exfalso;omega)),hH.kp⟩|exact rt1 (.inl rfl) rfl hA rfl ⟨_,rfl,(by rw [uS (hnil.2 (by omega)) (by omega) ⟨by omega,by omega⟩ (w_3 (by omega))];first|exact ⟨fun h=>⟨dTr h,by omega⟩,fun h=>decide_eq_true h.1⟩|exact ⟨fun h=>⟨(by assumption),dTr h⟩,fun h=>decide_eq_true h.2⟩|exact ⟨fun h=>(by cases h),fun h=>absurd h.2 (by omega)⟩|exact ⟨fun h=>(by cases h),fun h=>absurd h.1 (by assumption)⟩),hH.kp⟩|exact rt1 (.inl rfl) rfl hA rfl ⟨_,rfl,(by rw [uS (hnil.2 (by omega)) (by omega) ⟨by omega,by omega⟩ (w_4 (by assumption))];first|exact ⟨fun h=>⟨dTr h,by omega⟩,fun h=>decide_eq_true h.1⟩|exact ⟨fun h=>⟨(by assumption),dTr h⟩,fun h=>decide_eq_true h.2⟩|exact ⟨fun h=>(by cases h),fun h=>absurd h.2 (by omega)⟩|exact ⟨fun h=>(by cases h),fun h=>absurd h.1 (by assumption)⟩),hH.kp⟩|exact rt1 (.inl rfl) rfl hA rfl ⟨_,rfl,(by rw [uS (hnil.2 (by omega)) (by omega) ⟨by omega,by omega⟩ (w_5 (by assumption))];first|exact ⟨fun h=>⟨dTr h,by omega⟩,fun h=>decide_eq_true h.1⟩|exact ⟨fun h=>⟨(by assumption),dTr h⟩,fun h=>decide_eq_true h.2⟩|exact ⟨fun h=>(by cases h),fun h=>absurd h.2 (by omega)⟩|exact ⟨fun h=>(by cases h),fun h=>absurd h.1 (by assumption)⟩),hH.kp⟩|exact rt1 (.inl rfl) rfl hA rfl ⟨_,rfl,(by rw [uS (hnil.2 (by omega)) (by omega) ⟨by omega,by omega⟩ (w_7 (by assumption))];first|exact ⟨fun h=>⟨dTr h,by omega⟩,fun h=>decide_eq_true h.1⟩|exact ⟨fun h=>⟨(by assumption),dTr h⟩,fun h=>decide_eq_true h.2⟩|exact ⟨fun h=>(by cases h),fun h=>absurd h.2 (by omega)⟩|exact ⟨fun h=>(by cases h),fun h=>absurd h.1 (by assumption)⟩),hH.kp⟩|exact rt1 (.inl rfl) rfl hA rfl ⟨_,rfl,(by rw [uS (hnil.2 (by omega)) (by omega) ⟨by omega,by omega⟩ (w_8 (by assumption))];first|exact ⟨fun h=>⟨dTr h,by omega⟩,fun h=>decide_eq_true h.1⟩|exact ⟨fun h=>⟨(by assumption),dTr h⟩,fun h=>decide_eq_true h.2⟩|exact ⟨fun h=>(by cases h),fun h=>absurd h.2 (by omega)⟩|exact ⟨fun h=>(by cases h),fun h=>absurd h.1 (by assumption)⟩),hH.kp⟩|exact rt1 (.inl rfl) rfl hA rfl ⟨_,rfl,(by rw [uS (hnil.2 (by omega)) (by omega) ⟨by omega,by omega⟩ (w_9 (by assumption))];first|exact ⟨fun h=>⟨dTr h,by omega⟩,fun h=>decide_eq_true h.1⟩|exact ⟨fun h=>⟨(by assumption),dTr h⟩,fun h=>decide_eq_true h.2⟩|exact ⟨fun h=>(by cases h),fun h=>absurd h.2 (by omega)⟩|exact ⟨fun h=>(by cases h),fun h=>absurd h.1 (by assumption)⟩),hH.kp⟩|exact rt1 (.inl rfl) rfl hA rfl ⟨_,rfl,(by rw [uS (hnil.2 (by omega)) (by omega) ⟨by omega,by omega⟩ (w_14 (by assumption))];first|exact ⟨fun h=>⟨dTr h,by omega⟩,fun h=>decide_eq_true h.1⟩|exact ⟨fun h=>⟨(by assumption),dTr h⟩,fun h=>decide_eq_true h.2⟩|exact ⟨fun h=>(by cases h),fun h=>absurd h.2 (by omega)⟩|exact ⟨fun h=>(by cases h),fun h=>absurd h.1 (by assumption)⟩),hH.kp⟩|exact rt1 (.inl rfl) rfl hA rfl ⟨_,rfl,rN (rform_k (by omega)),hH.kp⟩|skip)
  all_goals
    obtain ⟨b4,b7,hH,hA⟩:∃b4 b7,HS w0 noM [cb b7 57 (zX r),cb b4 34 (xF oP nP cP g)] w∧Sl 180 [(10,.int .i64 0),(9,.int .i64 r.a.l.length),(8,.bool false),(7,.pointer (some (bat b7 0))),(4,.pointer (some (bat b4 0)))] a:=⟨_,_,hH,(hA.sub SBT)⟩
    refine zU (S:=Nat) (fun i a w=>(i≤r.ns.l.length∧∀k,k<i→jE g r.ns.l k)∧HS w0 noM [cb b7 57 (zX r),cb b4 34 (xF oP nP cP g)] w∧Sl 180 [(10,.int .i64 i),(9,.int .i64 r.a.l.length),(8,.bool false),(7,.pointer (some (bat b7 0))),(4,.pointer (some (bat b4 0)))] a) (fun i=>r.ns.l.length - i)
      (fun a w=>labP g r.ns.l∧HS w0 noM [cb b7 57 (zX r),cb b4 34 (xF oP nP cP g)] w∧Sl 180 [(9,.int .i64 r.a.l.length),(8,.bool false),(7,.pointer (some (bat b7 0))),(4,.pointer (some (bat b4 0)))] a) 0 ⟨⟨Nat.zero_le _,fun k h=>absurd h (Nat.not_lt_zero _)⟩,hH,(hA.sub SBT)⟩ ?_ ?_
    · clear hA hH
      rintro i a w ⟨⟨hi,hlab⟩,hH,hA⟩
      by_cases hlt:i<r.ns.l.length
      rotate_left
      · repeat' (first|(refine QT ?_;clear hA a;intro a hA)|refine CT ?_|(refine DT ?_ ?_<;>intro hc<;>try (exfalso;omega))|fail)
        obtain rfl:i=r.ns.l.length:=by omega
        exact ⟨hlab,hH,(hA.sub SBT)⟩
      have e1:((i:Int) - 1).toNat=i - 1:=by omega
      repeat' (first|(refine QT ?_;clear hA a;intro a hA)|refine CT ?_|(refine DT ?_ ?_<;>intro hc<;>try (exfalso;omega))|fail)
      all_goals (refine zO [(0,1),(1,1),(2,1),(3,1),(4,1),(5,1),(6,1),(7,1),(8,0),(9,1),(10,1),(11,1),(12,1),(13,1),(14,1),(15,1),(16,1),(17,1),(18,1),(19,1),(20,1),(21,1),(22,1),(23,1),(24,1),(25,1),(26,1),(27,1)] mixed (by decide +kernel) hH ?_;replace hH:=hH.drew)
      all_goals repeat' (first|(refine XT ?_;apply XE;(first|(apply zB;rfl;rfl;omega;exact hspN)|(apply zF;rfl;refine yG hN.1 id (vS ?_);omega));clear hA a;intro a hA)|(refine QT ?_;clear hA a;intro a hA)|fail)
      all_goals (refine yC hA rfl rfl rfl (by decide) (zE rfl rfl rfl (in_spec _ _ _)) ?_;clear hA;rintro _ w ⟨rfl,hk⟩;replace hH:=hH.keep hk;clear hk;refine ⟨STT,?_⟩;intro a hA)
      all_goals repeat' (first|(refine GT ?_ ?_<;>intro hg<;>clear hA a<;>intro a hA<;>(first|exact FA|replace hg:=dTr hg|replace hg:=dFa hg|skip))|(refine XT ?_;apply XE;(first|(apply zB;rfl;rfl;omega;exact hspN)|(apply zC;rfl;rfl;omega;omega;exact hspN)|(apply zF;rfl;refine yG hN.1 id (vS ?_);omega));clear hA a;intro a hA)|(refine QT ?_;clear hA a;intro a hA)|refine CT ?_|(refine DT ?_ ?_<;>intro hc<;>try (exfalso;omega))|fail)
      all_goals first
        |exact ⟨i+1,⟨⟨hlt,nM hlab ⟨nd_f (by assumption),fun h0=>(by omega)⟩⟩,hH,(hA.sub SBT)⟩,by omega⟩
        |exact ⟨i+1,⟨⟨hlt,nM hlab ⟨nd_f (by assumption),fun h0=>(by rw [←e1];omega)⟩⟩,hH,(hA.sub SBT)⟩,by omega⟩
        |exact rt1 (.inl rfl) rfl hA rfl ⟨_,rfl,rN (eP hlt (by assumption) (fun h=>nd_t (by assumption) h.1)),hH.kp⟩
        |exact rt1 (.inl rfl) rfl hA rfl ⟨_,rfl,rN (eP hlt (by assumption) (fun h=>(by have h1:=h.2 (by omega);rw [←e1] at h1;omega))),hH.kp⟩
    clear hA hH
    rintro a w ⟨hlab,hH,hA⟩
    repeat' (first|(refine GT ?_ ?_<;>intro hg<;>clear hA a<;>intro a hA<;>(first|exact FA|replace hg:=dTr hg|replace hg:=dFa hg|skip))|(refine QT ?_;clear hA a;intro a hA)|refine CT ?_|fail)
    all_goals first
      |exact rt1 (.inl rfl) rfl hA rfl ⟨_,rfl,(by rw [rform_6 (by assumption)];exact ⟨fun h=>⟨hlab,by assumption,dTr h⟩,fun h=>decide_eq_true h.2.2⟩),hH.kp⟩
      |exact rt1 (.inl rfl) rfl hA rfl ⟨_,rfl,(by rw [rform_6 (by assumption)];exact ⟨fun h=>(by cases h),fun h=>absurd h.2.1 (by assumption)⟩),hH.kp⟩
end
end Go.Proofs.YtenlcdokaadobaaGreatDoor
