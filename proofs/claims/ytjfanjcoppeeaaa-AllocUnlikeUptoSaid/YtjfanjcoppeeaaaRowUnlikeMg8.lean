/-
  All places at which variables are bound: the walk over each. Conditions: none.
  The program's Right, by its parts; slices.Equal; maps' len and literals. Conditions: none.
  The program's Colour and Live. Conditions: none.
  The program's Live. Conditions: none.
  The document's Press. Conditions: none.
  The document's Right, by its parts. Conditions: none.
-/
import Derived.Test.YtjfanjcoppeeaaaRowUnlikeMg7
namespace Go.Proofs.Ytjfanjcoppeeaaa
open Go Go.Fw
set_option linter.unusedVariables false
def isLen (f : Gr) (n : Nat) : Nat := match f.bs.l[n]? with
  | some bl => bl.is.l.length
  | none => 0
/-- block n's places: its beginning, i of its Ins -/
def slotB (n i : Nat) : List (Nat × Option Nat) := (n, none) :: (List.range i).map fun k => (n, some k)
def slots (f : Gr) (N : Nat) : List (Nat × Option Nat) := (List.range N).flatMap fun n => slotB n (isLen f n)
theorem slots_snoc (f : Gr) (n : Nat) : slots f (n + 1) = slots f n ++ slotB n (isLen f n) := by
  unfold slots
  rw [List.range_succ, List.flatMap_append]
  simp
theorem slotB_snoc (n i : Nat) : slotB n (i + 1) = slotB n i ++ [(n, some i)] := by
  unfold slotB
  rw [List.range_succ, List.map_append]
  rfl
/-- a place as it is at a slot -/
def IsAt (f : Gr) (ss : List (Option (Nat × List Int))) (sl : Nat × Option Nat) (p : Pl) : Prop :=
  ∃ bl, f.bs.l[sl.1]? = some bl ∧ p.ks.Nodup ∧ match sl.2 with
    | none => p.bs = bl.ps.l ∧ p.b = true ∧ ∀ x, x ∈ p.ks ↔ x ∈ setAt ss sl.1
    | some i => ∃ ins, bl.is.l[i]? = some ins ∧ p.bs = [ins.x] ∧ p.b = false ∧ ∀ x, x ∈ p.ks ↔ x ≠ ins.x ∧ insP (bl.is.l.drop (i + 1)) (lastP bl.e ss) x
def goes {S : Type} (at_ : S → Pl → Option S) : S → List Pl → Option S
  | s, [] => some s
  | s, p :: pl => (at_ s p).bind fun s' => goes at_ s' pl
theorem goes_snoc {S : Type} {at_ : S → Pl → Option S} : ∀ {pl : List Pl} {s s1 s2 : S} {p : Pl}, goes at_ s pl = some s1 → at_ s1 p = some s2 → goes at_ s (pl ++ [p]) = some s2
  | [], s, s1, s2, p, h1, h2 => by
    cases h1
    show (at_ s p).bind _ = _
    rw [h2]
    rfl
  | q :: pl, s, s1, s2, p, h1, h2 => by
    show (at_ s q).bind _ = _
    change (at_ s q).bind _ = _ at h1
    cases h : at_ s q with
    | none => rw [h] at h1; cases h1
    | some s' =>
      rw [h] at h1
      exact goes_snoc (s := s') h1 h2
inductive FA2 {α β : Type} (R : α → β → Prop) : List α → List β → Prop
  | nil : FA2 R [] []
  | cons {x : α} {y : β} {l : List α} {m : List β} (h : R x y) (h2 : FA2 R l m) : FA2 R (x :: l) (y :: m)
theorem fa2_snoc {α β : Type} {R : α → β → Prop} {l : List α} {m : List β} {x : α} {y : β} (h : FA2 R l m) (h2 : R x y) : FA2 R (l ++ [x]) (m ++ [y]) := by
  induction h with
  | nil => exact .cons h2 .nil
  | cons h1 _ ih => exact .cons h1 ih
/-- copies of what lives behind the Ins from j on -/
def CloneOk (bl : Blc) (ss bs : List (Option (Nat × List Int))) (j : Nat) : Prop :=
  bs.length = bl.is.l.length ∧ ∀ i, j ≤ i → i < bl.is.l.length → ∃ p, bs[i]? = some (some p) ∧ ∀ x, x ∈ p.2 ↔ insP (bl.is.l.drop (i + 1)) (lastP bl.e ss) x
theorem clone_set {bl : Blc} {ss bs : List (Option (Nat × List Int))} {j b : Nat} {ks ks0 : List Int} (h : CloneOk bl ss bs (j + 1)) (hj : j < bl.is.l.length) (hk0 : ∀ x, x ∈ ks0 ↔ insP (bl.is.l.drop (j + 1)) (lastP bl.e ss) x) (hk : ∀ x, x ∈ ks ↔ x ∈ ks0) : CloneOk bl ss (bs.set j (some (b, ks))) j := by
  refine ⟨by rw [List.length_set]; exact h.1, fun i h1 h2 => ?_⟩
  by_cases hij : j = i
  · subst hij
    exact ⟨(b, ks), by rw [List.getElem?_set_self (by rw [h.1]; exact hj)], fun x => (hk x).trans (hk0 x)⟩
  · obtain ⟨p, h3, h4⟩ := h.2 i (by omega) h2
    exact ⟨p, by rw [List.getElem?_set_ne hij]; exact h3, h4⟩
theorem clone_keep {bl : Blc} {ss bs : List (Option (Nat × List Int))} {i : Nat} {y : Option (Nat × List Int)} (h : CloneOk bl ss bs i) : CloneOk bl ss (bs.set i y) (i + 1) := by
  refine ⟨by rw [List.length_set]; exact h.1, fun k h1 h2 => ?_⟩
  obtain ⟨p, h3, h4⟩ := h.2 k (by omega) h2
  exact ⟨p, by rw [List.getElem?_set_ne (by omega)]; exact h3, h4⟩
theorem flat_encO_set {bs : List (Option (Nat × List Int))} {i b : Nat} {ks ks' : List Int} (h : bs[i]? = some (some (b, ks))) : flat encO (bs.set i (some (b, ks'))) = flat encO bs := by
  have key : ∀ (bs : List (Option (Nat × List Int))) (i : Nat), bs[i]? = some (some (b, ks)) → (bs.set i (some (b, ks'))).map encO = bs.map encO := by
    intro bs i h
    rw [List.map_set]
    exact set_same (by rw [List.getElem?_map, h]; rfl)
  unfold Fw.flat
  rw [List.flatMap_def, List.flatMap_def, key bs i h]
theorem map_sko_set (bs : List (Option (Nat × List Int))) (j b : Nat) (ks : List Int) : (bs.map sko).set j (sk b ks) = (bs.set j (some (b, ks))).map sko := by rw [List.map_set]; rfl
theorem sko_some (b : Nat) (ks : List Int) : sko (some (b, ks)) = sk b ks := rfl
theorem len_set (bs : List (Option (Nat × List Int))) (j : Nat) (y : Option (Nat × List Int)) : bs.length = (bs.set j y).length := by rw [List.length_set]
theorem mvO_some (b : Nat) (ks : List Int) : mvO (some (b, ks)) = .map (some b) := rfl
theorem flatI_one (x : Int) : flat Fw.encI [x] = [.int .i64 x] := rfl
theorem isAt_n {f : Gr} {ss : List (Option (Nat × List Int))} {n : Nat} {bl : Blc} {st : Option (Nat × List Int)} (hbl : f.bs.l[n]? = some bl) (hst : ss[n]? = some st) (hn : (kso st).Nodup) : IsAt f ss (n, none) ⟨bl.ps.l, kso st, true⟩ := by
  refine ⟨bl, hbl, hn, rfl, rfl, fun x => ?_⟩
  unfold setAt
  rw [hst]
  rfl
theorem isAt_i {f : Gr} {ss : List (Option (Nat × List Int))} {n i : Nat} {bl : Blc} {ins : Ins} {p : Nat × List Int} (hbl : f.bs.l[n]? = some bl) (hi : bl.is.l[i]? = some ins) (hp : ∀ x, x ∈ p.2 ↔ insP (bl.is.l.drop (i + 1)) (lastP bl.e ss) x) {b : Nat} (hn : (sdel p.2 ins.x).Nodup) :
    IsAt f ss (n, some i) ⟨[ins.x], kso (some (b, sdel p.2 ins.x)), false⟩ := by
  refine ⟨bl, hbl, hn, ins, hi, rfl, rfl, fun x => ?_⟩
  show x ∈ sdel p.2 ins.x ↔ _
  rw [mem_sdel, hp, and_comm]
theorem slot_mem {f : Gr} {n : Nat} {bl : Blc} (hbl : f.bs.l[n]? = some bl) {sl : Nat × Option Nat} (h : sl ∈ slotB n bl.is.l.length) : sl ∈ slots f f.bs.l.length := by
  have hn := (List.getElem?_eq_some_iff.1 hbl).1
  unfold slots
  refine List.mem_flatMap.2 ⟨n, List.mem_range.2 hn, ?_⟩
  unfold isLen
  rw [hbl]
  exact h
theorem slot_none (n i : Nat) : (n, none) ∈ slotB n i := .head _
theorem slot_some {n i k : Nat} (h : k < i) : (n, some k) ∈ slotB n i := .tail _ (List.mem_map.2 ⟨k, List.mem_range.2 h, rfl⟩)
theorem slots_next {f : Gr} {n : Nat} {bl : Blc} (hbl : f.bs.l[n]? = some bl) : slots f (n + 1) = slots f n ++ slotB n bl.is.l.length := by
  rw [slots_snoc]
  unfold isLen
  rw [hbl]
set_option maxRecDepth 10000 attribute [local irreducible] Code.wp wpList Calls Ex Op1 sat bat blk cb own Go.Fw.mp Go.Fw.mpO Go.Fw.mpI Go.Fw.mpE Go.Fw.itr HS Rd Ret wkD Hp Cl Cls Exit.then Exit.inBlock Exit.noGoto bodyPost Go.Fw.flat wk2 Go.Fw.all Go.Fw.owns wpOp
attribute [local irreducible] sk mpK srt sko mvO insP blkP skP goes slots slotB

set_option maxHeartbeats 8000000 in
theorem each_spec {S : Type} (gf : Nat) [hgf : FnB Try.prog gf] (cap : Array Value) (inv : S → It) (at_ : S → Pl → Option S) (w0 w : World) (H : List It) (f : Gr) (s0 : S) (hat : AtOk w0 gf cap inv at_) (hH : HS w0 noM (inv s0 :: H) w) (hR : RdG w0 f) (hU : Up f) (hB : f.bs.l.length ≤ 100000)
    (hP : ∀ bl ∈ f.bs.l, bl.ps.l.length ≤ 1000000 ∧ bl.is.l.length ≤ 1000000) (hK : ∀ ss, ss.length = f.bs.l.length → (∀ n, FixAt f ss n) → ∀ sl p, IsAt f ss sl p → p.ks.length ≤ 1000000) :
    Ret Try.prog 22 #[.agg (encG f).toArray, .func (.func gf) #[] cap] w (fun r w' => ∃ ss, ss.length = f.bs.l.length ∧ (∀ n, FixAt f ss n) ∧
      ((∃ pl s1, FA2 (IsAt f ss) (slots f f.bs.l.length) pl ∧ goes at_ s0 pl = some s1 ∧ r = .bool true ∧ HS w0 noM (inv s1 :: H) w') ∨
       (∃ sl p s1, sl ∈ slots f f.bs.l.length ∧ IsAt f ss sl p ∧ at_ s1 p = none ∧ r = .bool false ∧ HS w0 noM H w'))) := by
  have hsp : Sp f.bs.o f.bs.l.length := hR.1.1.sp (sz := 6) (flat_length encBl_len _) (by omega)
  (refine enterM (N := 79) Try.func22 rfl Try.ntmps22 rfl ?_; intro a hA; dsimp only [sl0, Nat.reduceAdd] at hA)
  repeat' (first | (first | (refine GT ?_ ?_ <;> intro hg <;> clear hA a <;> intro a hA <;> (first | exact FA | replace hg := of_decide_eq_true hg | replace hg := of_decide_eq_false hg | skip)) | (refine QT ?_; clear hA a; intro a hA) | (first | (refine BT ?_; clear hA hH; rintro _ w ⟨bN, rfl, hH⟩ a hA) | (refine LT ?_; clear hA hH; rintro _ w ⟨oN, rfl, hH⟩ a hA) | (refine AT ?_; clear hA; rintro _ w ⟨oN, cN, rfl, hH2⟩ a hA; clear hH; have hH := (hH2 _ (by (repeat constructor))).tail; clear hH2) | (refine S0T ?_; clear hH; rintro _ w hH) )) | ((first | refine CT ?_ | (refine DT ?_ ?_ <;> intro hc <;> try (exfalso; omega))) <;> repeat' refine CT ?_) | (first | (refine DSK ?_; clear hA a; intro a hA) | (first | (refine DLT ?_; clear hA hH; rintro _ w ⟨oN, rfl, hH⟩; refine ⟨STT, ?_⟩; intro a hA) | (refine DAT ?_; clear hA; rintro _ w ⟨oN, cN, rfl, hH2⟩; clear hH; have hH := (hH2 _ (by (repeat constructor))).tail; clear hH2; refine ⟨STT, ?_⟩; intro a hA))) )
  obtain ⟨bF, hbF⟩ : ∃ x, x = bN := ⟨_, rfl⟩
  rw [← hbF] at hA hH
  clear hbF bN
  (refine st_op hA rfl rfl (by decide) (op_call rfl rfl rfl (live_spec w0 _ _ f hH hR hU hB)) ?_; clear hA hH; rintro _ w ⟨oI, cI, ss, rfl, hsl, hF, hH⟩ a hA)
  replace hK := hK ss hsl hF
  repeat' (first | (first | (refine GT ?_ ?_ <;> intro hg <;> clear hA a <;> intro a hA <;> (first | exact FA | replace hg := of_decide_eq_true hg | replace hg := of_decide_eq_false hg | skip)) | (refine QT ?_; clear hA a; intro a hA) | (first | (refine BT ?_; clear hA hH; rintro _ w ⟨bN, rfl, hH⟩ a hA) | (refine LT ?_; clear hA hH; rintro _ w ⟨oN, rfl, hH⟩ a hA) | (refine AT ?_; clear hA; rintro _ w ⟨oN, cN, rfl, hH2⟩ a hA; clear hH; have hH := (hH2 _ (by (repeat constructor))).tail; clear hH2) | (refine S0T ?_; clear hH; rintro _ w hH) )) | ((first | refine CT ?_ | (refine DT ?_ ?_ <;> intro hc <;> try (exfalso; omega))) <;> repeat' refine CT ?_) | (first | (refine DSK ?_; clear hA a; intro a hA) | (first | (refine DLT ?_; clear hA hH; rintro _ w ⟨oN, rfl, hH⟩; refine ⟨STT, ?_⟩; intro a hA) | (refine DAT ?_; clear hA; rintro _ w ⟨oN, cN, rfl, hH2⟩; clear hH; have hH := (hH2 _ (by (repeat constructor))).tail; clear hH2; refine ⟨STT, ?_⟩; intro a hA))) )
  have hspI := hH.own_sp (T := 72) (o := oI) (.head _)
  have hH1 : HS w0 noM (all (([] : List Nat).map dfi) :: inv s0 :: own 72 1 oI ss.length cI (flat encO ss) :: all (ss.map sko) :: cb bF 30 (encG f) :: H) w := (hH.perm (by (repeat (first | exact List.Perm.refl _ | exact List.Perm.nil | refine perm_pick 0 rfl ?_ | refine perm_pick 1 rfl ?_ | refine perm_pick 2 rfl ?_ | refine perm_pick 3 rfl ?_ | refine perm_pick 4 rfl ?_ | refine perm_pick 5 rfl ?_ | refine perm_pick 6 rfl ?_ | refine perm_pick 7 rfl ?_ | refine perm_pick 8 rfl ?_ | refine perm_pick 9 rfl ?_ | refine perm_pick 10 rfl ?_ | refine perm_pick 11 rfl ?_)))).nil_all
  have hA1 : Sl 79 [(19, .int .i64 0), (18, .int .i64 f.bs.l.length), (17, .slice f.bs.o f.bs.l.length f.bs.c), (5, .slice oI ss.length cI), (2, .pointer (some (bat bF 0))), (1, .func (.func gf) #[] cap)] a (([] : List Nat).map dmk) := (hA.sub (by (repeat (first | exact trivial | refine ⟨rfl, ?_⟩))))
  clear hA hH
  refine wp_lpk (S := Nat) (fun n a w => ∃ (L : List Nat) (pl : List Pl) (s1 : S), (n ≤ f.bs.l.length ∧ FA2 (IsAt f ss) (slots f n) pl ∧ goes at_ s0 pl = some s1) ∧
      HS w0 noM (all (L.map dfi) :: inv s1 :: own 72 1 oI ss.length cI (flat encO ss) :: all (ss.map sko) :: cb bF 30 (encG f) :: H) w ∧ Sl 79 [(19, .int .i64 n), (18, .int .i64 f.bs.l.length), (17, .slice f.bs.o f.bs.l.length f.bs.c), (5, .slice oI ss.length cI), (2, .pointer (some (bat bF 0))), (1, .func (.func gf) #[] cap)] a (L.map dmk)) (fun n => f.bs.l.length - n)
    (fun a w => ∃ (L : List Nat) (pl : List Pl) (s1 : S), (FA2 (IsAt f ss) (slots f f.bs.l.length) pl ∧ goes at_ s0 pl = some s1) ∧
      HS w0 noM (all (L.map dfi) :: inv s1 :: H) w ∧ Sl 79 [] a (L.map dmk)) 0
    ⟨[], [], s0, ⟨Nat.zero_le _, (by unfold slots; exact .nil), (by unfold goes; rfl)⟩, hH1, hA1⟩ ?_ ?_
  · clear hA1 hH1
    rintro n a w ⟨L, pl, s1, ⟨hn, hpl, hgo⟩, hH, hA⟩
    by_cases hlt : n < f.bs.l.length
    rotate_left
    · obtain rfl : n = f.bs.l.length := by omega
      repeat' (first | (first | (refine GT ?_ ?_ <;> intro hg <;> clear hA a <;> intro a hA <;> (first | exact FA | replace hg := of_decide_eq_true hg | replace hg := of_decide_eq_false hg | skip)) | (refine QT ?_; clear hA a; intro a hA) | (first | (refine BT ?_; clear hA hH; rintro _ w ⟨bN, rfl, hH⟩ a hA) | (refine LT ?_; clear hA hH; rintro _ w ⟨oN, rfl, hH⟩ a hA) | (refine AT ?_; clear hA; rintro _ w ⟨oN, cN, rfl, hH2⟩ a hA; clear hH; have hH := (hH2 _ (by (repeat constructor))).tail; clear hH2) | (refine S0T ?_; clear hH; rintro _ w hH) )) | ((first | refine CT ?_ | (refine DT ?_ ?_ <;> intro hc <;> try (exfalso; omega))) <;> repeat' refine CT ?_) | (first | (refine DSK ?_; clear hA a; intro a hA) | (first | (refine DLT ?_; clear hA hH; rintro _ w ⟨oN, rfl, hH⟩; refine ⟨STT, ?_⟩; intro a hA) | (refine DAT ?_; clear hA; rintro _ w ⟨oN, cN, rfl, hH2⟩; clear hH; have hH := (hH2 _ (by (repeat constructor))).tail; clear hH2; refine ⟨STT, ?_⟩; intro a hA))) )
      exact ⟨L, pl, s1, ⟨hpl, hgo⟩, ((hH.rm 2).rm 2).rm 2, (hA.sub (by (repeat (first | exact trivial | refine ⟨rfl, ?_⟩))))⟩
    obtain ⟨bl, hbl⟩ : ∃ bl, f.bs.l[n]? = some bl := ⟨_, List.getElem?_eq_getElem hlt⟩
    obtain ⟨st, hst⟩ : ∃ st, ss[n]? = some st := ⟨_, List.getElem?_eq_getElem (by omega)⟩
    have hbR := hR.2 bl (List.mem_of_getElem? hbl)
    obtain ⟨hpsl, hisl⟩ := hP bl (List.mem_of_getElem? hbl)
    have hspP : Sp bl.ps.o bl.ps.l.length := hbR.1.1.sp (sz := 1) (flat_length Fw.encI_len _) (by omega)
    have hspIs : Sp bl.is.o bl.is.l.length := hbR.2.1.1.sp (sz := 5) (flat_length encIn_len _) (by omega)
    have hvs := flat_all encBl_len hbl
    have hvI : (flat encO ss)[n * 1]? = some (mvO st) := flat_get (off := 0) encO_len hst (by rw [encO_eq]; rfl)
    have hsm : (ss.map sko)[n]? = some (sko st) := by rw [List.getElem?_map, hst]; rfl
    repeat' (first | (first | (refine GT ?_ ?_ <;> intro hg <;> clear hA a <;> intro a hA <;> (first | exact FA | replace hg := of_decide_eq_true hg | replace hg := of_decide_eq_false hg | skip)) | ((first | apply st_ex hA hH rfl rfl (by decide) | apply dr_ex hA rfl rfl rfl (by decide) | apply dr_exp hA rfl rfl rfl (by decide) | apply dr_ex3 hA hH rfl rfl rfl (by decide)); (first | (apply ex_load_st (vs := encBl bl); rfl; rfl; exact cls_rd hR.1.1 id hvs)); clear hA a; intro a hA) | (refine QT ?_; clear hA a; intro a hA) | (first | (refine BT ?_; clear hA hH; rintro _ w ⟨bN, rfl, hH⟩ a hA) | (refine LT ?_; clear hA hH; rintro _ w ⟨oN, rfl, hH⟩ a hA) | (refine AT ?_; clear hA; rintro _ w ⟨oN, cN, rfl, hH2⟩ a hA; clear hH; have hH := (hH2 _ (by (repeat constructor))).tail; clear hH2) | (refine S0T ?_; clear hH; rintro _ w hH) | (apply st_op0 hA rfl rfl; apply op_store_agg (vs := encBl bl); rfl; rfl; exact hH; (repeat constructor); (repeat rfl); clear hH; rintro _ w hH))) | ((first | refine CT ?_ | (refine DT ?_ ?_ <;> intro hc <;> try (exfalso; omega))) <;> repeat' refine CT ?_) | (first | (refine DSK ?_; clear hA a; intro a hA) | (first | (refine DLT ?_; clear hA hH; rintro _ w ⟨oN, rfl, hH⟩; refine ⟨STT, ?_⟩; intro a hA) | (refine DAT ?_; clear hA; rintro _ w ⟨oN, cN, rfl, hH2⟩; clear hH; have hH := (hH2 _ (by (repeat constructor))).tail; clear hH2; refine ⟨STT, ?_⟩; intro a hA))) )
    obtain ⟨b7, hb7⟩ : ∃ x, x = bN := ⟨_, rfl⟩
    rw [← hb7] at hA hH
    clear hb7 bN
    replace hH := (hH.up 4 rfl).openAt hsm
    dsimp only [List.eraseIdx_cons_succ, List.eraseIdx_cons_zero] at hH
    replace hH := hH.up 4 rfl
    dsimp only [List.eraseIdx_cons_succ, List.eraseIdx_cons_zero] at hH
    have hstn := sko_nodup (st := st) hH (.tail _ (.head _))
    have hIs := isAt_n hbl hst hstn
    have hstl := hK _ _ hIs
    have hST : HS w0 noM [cb b7 52 (encBl bl), own 72 1 oI ss.length cI (flat encO ss)] w := HS.left (H1 := [_, _]) (H2 := inv s1 :: sko st :: all ((ss.map sko).eraseIdx n) :: all (L.map dfi) :: cb bF 30 (encG f) :: H) (hH.perm (by (repeat (first | exact List.Perm.refl _ | exact List.Perm.nil | refine perm_pick 0 rfl ?_ | refine perm_pick 1 rfl ?_ | refine perm_pick 2 rfl ?_ | refine perm_pick 3 rfl ?_ | refine perm_pick 4 rfl ?_ | refine perm_pick 5 rfl ?_ | refine perm_pick 6 rfl ?_ | refine perm_pick 7 rfl ?_ | refine perm_pick 8 rfl ?_ | refine perm_pick 9 rfl ?_ | refine perm_pick 10 rfl ?_ | refine perm_pick 11 rfl ?_))))
    (refine wp_draw_HS (H := [cb b7 52 (encBl bl), own 72 1 oI ss.length cI (flat encO ss)]) [(0, 1), (1, 1), (2, 1), (3, 1), (4, 1), (5, 1), (6, 1), (7, 0), (8, 1)] mixed (by decide +kernel) (hST) ?_; replace hH := hH.drew)
    clear hST
    repeat' (first | (first | (refine GT ?_ ?_ <;> intro hg <;> clear hA a <;> intro a hA <;> (first | exact FA | replace hg := of_decide_eq_true hg | replace hg := of_decide_eq_false hg | skip)) | ((first | apply st_ex hA hH rfl rfl (by decide) | apply dr_ex hA rfl rfl rfl (by decide) | apply dr_exp hA rfl rfl rfl (by decide) | apply dr_ex3 hA hH rfl rfl rfl (by decide)); (first | (apply ex_indexAddr_nat; rfl; rfl; omega; exact hspI) | (apply ex_load; rfl; apply cl_own (T := 72); exact MEMT; exact hvI)); clear hA a; intro a hA) | (refine QT ?_; clear hA a; intro a hA) | (first | (refine BT ?_; clear hA hH; rintro _ w ⟨bN, rfl, hH⟩ a hA) | (refine LT ?_; clear hA hH; rintro _ w ⟨oN, rfl, hH⟩ a hA) | (refine AT ?_; clear hA; rintro _ w ⟨oN, cN, rfl, hH2⟩ a hA; clear hH; have hH := (hH2 _ (by (repeat constructor))).tail; clear hH2) | (refine S0T ?_; clear hH; rintro _ w hH) )) | ((first | refine CT ?_ | (refine DT ?_ ?_ <;> intro hc <;> try (exfalso; omega))) <;> repeat' refine CT ?_) | (first | (refine DSK ?_; clear hA a; intro a hA) | (first | (refine DLT ?_; clear hA hH; rintro _ w ⟨oN, rfl, hH⟩; refine ⟨STT, ?_⟩; intro a hA) | (refine DAT ?_; clear hA; rintro _ w ⟨oN, cN, rfl, hH2⟩; clear hH; have hH := (hH2 _ (by (repeat constructor))).tail; clear hH2; refine ⟨STT, ?_⟩; intro a hA))) )
    (refine dr_op hA rfl rfl rfl (by decide) (op_call rfl rfl (by simp) (hat _ s1 st bl.ps.o bl.ps.c bl.ps.l true _ hH (fun w' h => h.rd hbR.1.1 id) hspP hpsl hstl)) ?_; clear hA hH)
    rintro _ w (⟨s2, hs2, rfl, hH⟩ | ⟨hno, rfl, hH⟩)
    rotate_left
    · refine ⟨HS.left (H1 := [_, _]) (H2 := all ((ss.map sko).eraseIdx n) :: all (L.map dfi) :: cb bF 30 (encG f) :: H) (hH.perm (by (repeat (first | exact List.Perm.refl _ | exact List.Perm.nil | refine perm_pick 0 rfl ?_ | refine perm_pick 1 rfl ?_ | refine perm_pick 2 rfl ?_ | refine perm_pick 3 rfl ?_ | refine perm_pick 4 rfl ?_ | refine perm_pick 5 rfl ?_ | refine perm_pick 6 rfl ?_ | refine perm_pick 7 rfl ?_ | refine perm_pick 8 rfl ?_ | refine perm_pick 9 rfl ?_ | refine perm_pick 10 rfl ?_ | refine perm_pick 11 rfl ?_)))), ?_⟩
      intro a hA
      repeat' (first | (first | (refine GT ?_ ?_ <;> intro hg <;> clear hA a <;> intro a hA <;> (first | exact FA | replace hg := of_decide_eq_true hg | replace hg := of_decide_eq_false hg | skip)) | (refine QT ?_; clear hA a; intro a hA) | (first | (refine BT ?_; clear hA hH; rintro _ w ⟨bN, rfl, hH⟩ a hA) | (refine LT ?_; clear hA hH; rintro _ w ⟨oN, rfl, hH⟩ a hA) | (refine AT ?_; clear hA; rintro _ w ⟨oN, cN, rfl, hH2⟩ a hA; clear hH; have hH := (hH2 _ (by (repeat constructor))).tail; clear hH2) | (refine S0T ?_; clear hH; rintro _ w hH) )) | ((first | refine CT ?_ | (refine DT ?_ ?_ <;> intro hc <;> try (exfalso; omega))) <;> repeat' refine CT ?_) | (first | (refine DSK ?_; clear hA a; intro a hA) | (first | (refine DLT ?_; clear hA hH; rintro _ w ⟨oN, rfl, hH⟩; refine ⟨STT, ?_⟩; intro a hA) | (refine DAT ?_; clear hA; rintro _ w ⟨oN, cN, rfl, hH2⟩; clear hH; have hH := (hH2 _ (by (repeat constructor))).tail; clear hH2; refine ⟨STT, ?_⟩; intro a hA))) )
      refine rt1M (.inl rfl) rfl hA rfl (hH.up 2 rfl) fun w hH => ⟨ss, hsl, hF, .inr ⟨_, _, s1, slot_mem hbl (slot_none _ _), hIs, hno, rfl, hH.tail.tail.tail.tail⟩⟩
    have hpl1 := fa2_snoc hpl hIs
    have hgo1 := goes_snoc hgo hs2
    clear hpl hgo
    refine ⟨HS.left (H1 := [_, _]) (H2 := inv s2 :: sko st :: all ((ss.map sko).eraseIdx n) :: all (L.map dfi) :: cb bF 30 (encG f) :: H) (hH.perm (by (repeat (first | exact List.Perm.refl _ | exact List.Perm.nil | refine perm_pick 0 rfl ?_ | refine perm_pick 1 rfl ?_ | refine perm_pick 2 rfl ?_ | refine perm_pick 3 rfl ?_ | refine perm_pick 4 rfl ?_ | refine perm_pick 5 rfl ?_ | refine perm_pick 6 rfl ?_ | refine perm_pick 7 rfl ?_ | refine perm_pick 8 rfl ?_ | refine perm_pick 9 rfl ?_ | refine perm_pick 10 rfl ?_ | refine perm_pick 11 rfl ?_)))), ?_⟩
    intro a hA
    replace hH := (hH.up 1 rfl).perm (H' := sko st :: all ((ss.map sko).eraseIdx n) :: inv s2 :: cb b7 52 (encBl bl) :: all (L.map dfi) :: own 72 1 oI ss.length cI (flat encO ss) :: cb bF 30 (encG f) :: H) (by (repeat (first | exact List.Perm.refl _ | exact List.Perm.nil | refine perm_pick 0 rfl ?_ | refine perm_pick 1 rfl ?_ | refine perm_pick 2 rfl ?_ | refine perm_pick 3 rfl ?_ | refine perm_pick 4 rfl ?_ | refine perm_pick 5 rfl ?_ | refine perm_pick 6 rfl ?_ | refine perm_pick 7 rfl ?_ | refine perm_pick 8 rfl ?_ | refine perm_pick 9 rfl ?_ | refine perm_pick 10 rfl ?_ | refine perm_pick 11 rfl ?_)))
    replace hH := hH.shutAt (x := sko st) (by rw [List.length_map]; omega)
    rw [set_same hsm] at hH
    repeat' (first | (first | (refine GT ?_ ?_ <;> intro hg <;> clear hA a <;> intro a hA <;> (first | exact FA | replace hg := of_decide_eq_true hg | replace hg := of_decide_eq_false hg | skip)) | (refine QT ?_; clear hA a; intro a hA) | (first | (refine BT ?_; clear hA hH; rintro _ w ⟨bN, rfl, hH⟩ a hA) | (refine LT ?_; clear hA hH; rintro _ w ⟨oN, rfl, hH⟩ a hA) | (refine AT ?_; clear hA; rintro _ w ⟨oN, cN, rfl, hH2⟩ a hA; clear hH; have hH := (hH2 _ (by (repeat constructor))).tail; clear hH2) | (refine S0T ?_; clear hH; rintro _ w hH) | (apply st_op hA rfl rfl (by decide); apply op_make1 (encO) ((none : Option (Nat × List Int))) (n := bl.is.l.length); rfl; rfl; omega; omega; (unfold maxLen; omega); omega; rfl; rfl; exact hH; clear hA hH; rintro _ w ⟨oN, rfl, hH⟩ a hA))) | ((first | refine CT ?_ | (refine DT ?_ ?_ <;> intro hc <;> try (exfalso; omega))) <;> repeat' refine CT ?_) | (first | (refine DSK ?_; clear hA a; intro a hA) | (first | (refine DLT ?_; clear hA hH; rintro _ w ⟨oN, rfl, hH⟩; refine ⟨STT, ?_⟩; intro a hA) | (refine DAT ?_; clear hA; rintro _ w ⟨oN, cN, rfl, hH2⟩; clear hH; have hH := (hH2 _ (by (repeat constructor))).tail; clear hH2; refine ⟨STT, ?_⟩; intro a hA))) )
    obtain ⟨b8, hb8⟩ : ∃ x, x = bN := ⟨_, rfl⟩
    obtain ⟨oB, hoB⟩ : ∃ x, x = oN := ⟨_, rfl⟩
    rw [← hb8, ← hoB] at hA hH
    clear hb8 bN hoB oN
    obtain ⟨cB, hcB⟩ : ∃ x, x = bl.is.l.length := ⟨_, rfl⟩
    obtain ⟨bs0, hbs0⟩ : ∃ x, x = List.replicate bl.is.l.length (none : Option (Nat × List Int)) := ⟨_, rfl⟩
    have hbl0 : bs0.length = bl.is.l.length := by rw [hbs0, List.length_replicate]
    have hC0 : CloneOk bl ss bs0 bl.is.l.length := ⟨hbl0, fun i h1 h2 => by omega⟩
    have hH0 : HS w0 noM (own 72 1 oI ss.length cI (flat encO ss) :: all (ss.map sko) :: all [own 72 1 oB bs0.length cB (flat encO bs0), all (bs0.map sko)] :: cb b8 80 [.slice oB bl.is.l.length cB] :: inv s2 :: cb b7 52 (encBl bl) :: all (L.map dfi) :: cb bF 30 (encG f) :: H) w := by
      have h1 := rep_sko hH bl.is.l.length
      rw [← hbs0] at h1
      rw [hbl0, hcB]
      have h2 : HS w0 noM (own 72 1 oB bl.is.l.length bl.is.l.length (flat encO bs0) :: all (bs0.map sko) :: own 72 1 oI ss.length cI (flat encO ss) :: all (ss.map sko) :: cb b8 80 [.slice oB bl.is.l.length bl.is.l.length] :: inv s2 :: cb b7 52 (encBl bl) :: all (L.map dfi) :: cb bF 30 (encG f) :: H) w := by
        rw [hbs0] at h1 ⊢
        exact h1.perm (by (repeat (first | exact List.Perm.refl _ | exact List.Perm.nil | refine perm_pick 0 rfl ?_ | refine perm_pick 1 rfl ?_ | refine perm_pick 2 rfl ?_ | refine perm_pick 3 rfl ?_ | refine perm_pick 4 rfl ?_ | refine perm_pick 5 rfl ?_ | refine perm_pick 6 rfl ?_ | refine perm_pick 7 rfl ?_ | refine perm_pick 8 rfl ?_ | refine perm_pick 9 rfl ?_ | refine perm_pick 10 rfl ?_ | refine perm_pick 11 rfl ?_)))
      exact (HS.shut (L := [_, _]) h2).perm (by (repeat (first | exact List.Perm.refl _ | exact List.Perm.nil | refine perm_pick 0 rfl ?_ | refine perm_pick 1 rfl ?_ | refine perm_pick 2 rfl ?_ | refine perm_pick 3 rfl ?_ | refine perm_pick 4 rfl ?_ | refine perm_pick 5 rfl ?_ | refine perm_pick 6 rfl ?_ | refine perm_pick 7 rfl ?_ | refine perm_pick 8 rfl ?_ | refine perm_pick 9 rfl ?_ | refine perm_pick 10 rfl ?_ | refine perm_pick 11 rfl ?_)))
    have hA0 : Sl 79 [(38, .slice oI ss.length cI), (37, .agg (encBl bl).toArray), (8, .pointer (some (bat b8 0))), (7, .pointer (some (bat b7 0))), (6, .int .i64 n), (19, .int .i64 n), (18, .int .i64 f.bs.l.length), (17, .slice f.bs.o f.bs.l.length f.bs.c), (5, .slice oI ss.length cI), (2, .pointer (some (bat bF 0))), (1, .func (.func gf) #[] cap)] a (L.map dmk) := (hA.sub (by (repeat (first | exact trivial | refine ⟨rfl, ?_⟩))))
    clear hA hH
    have hA := hA0
    have hH := hH0
    clear hA0 hH0 hbs0
    (refine st_op hA rfl rfl (by decide) (op_call rfl rfl rfl (last_spec w0 _ _ bl oI cI ss hH hbR)) ?_; clear hA hH; rintro _ w ⟨b, ks, rfl, hks, hH⟩ a hA)
    repeat' (first | (first | (refine GT ?_ ?_ <;> intro hg <;> clear hA a <;> intro a hA <;> (first | exact FA | replace hg := of_decide_eq_true hg | replace hg := of_decide_eq_false hg | skip)) | (refine QT ?_; clear hA a; intro a hA) | (first | (refine BT ?_; clear hA hH; rintro _ w ⟨bN, rfl, hH⟩ a hA) | (refine LT ?_; clear hA hH; rintro _ w ⟨oN, rfl, hH⟩ a hA) | (refine AT ?_; clear hA; rintro _ w ⟨oN, cN, rfl, hH2⟩ a hA; clear hH; have hH := (hH2 _ (by (repeat constructor))).tail; clear hH2) | (refine S0T ?_; clear hH; rintro _ w hH) )) | ((first | refine CT ?_ | (refine DT ?_ ?_ <;> intro hc <;> try (exfalso; omega))) <;> repeat' refine CT ?_) | (first | (refine DSK ?_; clear hA a; intro a hA) | (first | (refine DLT ?_; clear hA hH; rintro _ w ⟨oN, rfl, hH⟩; refine ⟨STT, ?_⟩; intro a hA) | (refine DAT ?_; clear hA; rintro _ w ⟨oN, cN, rfl, hH2⟩; clear hH; have hH := (hH2 _ (by (repeat constructor))).tail; clear hH2; refine ⟨STT, ?_⟩; intro a hA))) )
    obtain ⟨b9, hb9⟩ : ∃ x, x = bN := ⟨_, rfl⟩
    rw [← hb9] at hA hH
    clear hb9 bN
    (refine st_op hA rfl rfl (by decide) (op_call rfl rfl rfl (backward_spec _ bl.is)) ?_; clear hA; rintro _ w ⟨bI, rfl, hj⟩ a hA; replace hH := hH.join hj; clear hj)
    repeat' (first | (first | (refine GT ?_ ?_ <;> intro hg <;> clear hA a <;> intro a hA <;> (first | exact FA | replace hg := of_decide_eq_true hg | replace hg := of_decide_eq_false hg | skip)) | (refine QT ?_; clear hA a; intro a hA) | (first | (refine BT ?_; clear hA hH; rintro _ w ⟨bN, rfl, hH⟩ a hA) | (refine LT ?_; clear hA hH; rintro _ w ⟨oN, rfl, hH⟩ a hA) | (refine AT ?_; clear hA; rintro _ w ⟨oN, cN, rfl, hH2⟩ a hA; clear hH; have hH := (hH2 _ (by (repeat constructor))).tail; clear hH2) | (refine S0T ?_; clear hH; rintro _ w hH) )) | ((first | refine CT ?_ | (refine DT ?_ ?_ <;> intro hc <;> try (exfalso; omega))) <;> repeat' refine CT ?_) | (first | (refine DSK ?_; clear hA a; intro a hA) | (first | (refine DLT ?_; clear hA hH; rintro _ w ⟨oN, rfl, hH⟩; refine ⟨STT, ?_⟩; intro a hA) | (refine DAT ?_; clear hA; rintro _ w ⟨oN, cN, rfl, hH2⟩; clear hH; have hH := (hH2 _ (by (repeat constructor))).tail; clear hH2; refine ⟨STT, ?_⟩; intro a hA))) )
    refine wp_range (gf := 64) (lb := #[.pointer (some (bat bI 0))])
      (fun j => skP b (insP (bl.is.l.drop j) (lastP bl.e ss)) :: exI (fun bs => facI (CloneOk bl ss bs j) (all [own 72 1 oB bs.length cB (flat encO bs), all (bs.map sko)])) :: cb bI 45 [.slice bl.is.o bl.is.l.length bl.is.c] :: cb b8 80 [.slice oB bl.is.l.length cB] :: cb b9 72 [.map (some b)] :: inv s2 :: own 72 1 oI ss.length cI (flat encO ss) :: all (ss.map sko) :: cb b7 52 (encBl bl) :: all (L.map dfi) :: cb bF 30 (encG f) :: H)
      (fun j => #[.int .i64 j, .agg (encIn (bl.is.l.getD j ins0)).toArray]) bl.is.l.length hA rfl (fun _ => rfl) ?_ (fun l X Y W hY hW => back_spec w0 bl.is bI (fun j => skP b (insP (bl.is.l.drop j) (lastP bl.e ss)) :: exI (fun bs => facI (CloneOk bl ss bs j) (all [own 72 1 oB bs.length cB (flat encO bs), all (bs.map sko)])) :: cb bI 45 [.slice bl.is.o bl.is.l.length bl.is.c] :: cb b8 80 [.slice oB bl.is.l.length cB] :: cb b9 72 [.map (some b)] :: inv s2 :: own 72 1 oI ss.length cI (flat encO ss) :: all (ss.map sko) :: cb b7 52 (encBl bl) :: all (L.map dfi) :: cb bF 30 (encG f) :: H) (fun i => .tail _ (.tail _ (.head _))) hbR.2.1 l X Y W hY hW) ?_ ?_
    · replace hH := HS.exI_shut (f := fun bs => facI (CloneOk bl ss bs bl.is.l.length) (all [own 72 1 oB bs.length cB (flat encO bs), all (bs.map sko)])) bs0 (HS.facI_shut hC0 (hH.up 5 rfl))
      dsimp only [List.eraseIdx_cons_succ, List.eraseIdx_cons_zero, List.cons_append, List.nil_append] at hH
      exact HS.shutP (ks := ks) (hH.perm (by (repeat (first | exact List.Perm.refl _ | exact List.Perm.nil | refine perm_pick 0 rfl ?_ | refine perm_pick 1 rfl ?_ | refine perm_pick 2 rfl ?_ | refine perm_pick 3 rfl ?_ | refine perm_pick 4 rfl ?_ | refine perm_pick 5 rfl ?_ | refine perm_pick 6 rfl ?_ | refine perm_pick 7 rfl ?_ | refine perm_pick 8 rfl ?_ | refine perm_pick 9 rfl ?_ | refine perm_pick 10 rfl ?_ | refine perm_pick 11 rfl ?_)))) (by rw [insP_end]; exact hks)
    · clear hH
      rintro l X Y j W hj hH
      have hA0 := rd_slots2 (p := 43) (q := 44) (v1 := .int .i64 j) (v2 := .agg (encIn (bl.is.l.getD j ins0)).toArray) hA (by decide) (by decide)
      clear hA
      generalize ({ tmps := _, defers := [] } : Act) = a0 at hA0 ⊢
      rename _ => hA
      apply wpIn_seq
      refine rd_region rfl ?_
      repeat' (first | (first | (refine GT ?_ ?_ <;> intro hg <;> clear hA a <;> intro a hA <;> (first | exact FA | replace hg := of_decide_eq_true hg | replace hg := of_decide_eq_false hg | skip)) | (refine QT ?_; clear hA a; intro a hA) | (first | (refine BT ?_; clear hA hH; rintro _ w ⟨bN, rfl, hH⟩ a hA) | (refine LT ?_; clear hA hH; rintro _ w ⟨oN, rfl, hH⟩ a hA) | (refine AT ?_; clear hA; rintro _ w ⟨oN, cN, rfl, hH2⟩ a hA; clear hH; have hH := (hH2 _ (by (repeat constructor))).tail; clear hH2) | (refine S0T ?_; clear hH; rintro _ w hH) )) | ((first | refine CT ?_ | (refine DT ?_ ?_ <;> intro hc <;> try (exfalso; omega))) <;> repeat' refine CT ?_) | (first | (refine DSK ?_; clear hA a; intro a hA) | (first | (refine DLT ?_; clear hA hH; rintro _ w ⟨oN, rfl, hH⟩; refine ⟨STT, ?_⟩; intro a hA) | (refine DAT ?_; clear hA; rintro _ w ⟨oN, cN, rfl, hH2⟩; clear hH; have hH := (hH2 _ (by (repeat constructor))).tail; clear hH2; refine ⟨STT, ?_⟩; intro a hA))) )
      refine rd_region rfl ?_
      repeat' (first | (first | (refine GT ?_ ?_ <;> intro hg <;> clear hA a <;> intro a hA <;> (first | exact FA | replace hg := of_decide_eq_true hg | replace hg := of_decide_eq_false hg | skip)) | (refine QT ?_; clear hA a; intro a hA) | (first | (refine BT ?_; clear hA hH; rintro _ w ⟨bN, rfl, hH⟩ a hA) | (refine LT ?_; clear hA hH; rintro _ w ⟨oN, rfl, hH⟩ a hA) | (refine AT ?_; clear hA; rintro _ w ⟨oN, cN, rfl, hH2⟩ a hA; clear hH; have hH := (hH2 _ (by (repeat constructor))).tail; clear hH2) | (refine S0T ?_; clear hH; rintro _ w hH) | (apply st_op0 hA rfl rfl; apply op_store_agg (vs := encIn (bl.is.l.getD j ins0)); rfl; rfl; exact hH; (repeat constructor); (repeat rfl); clear hH; rintro _ w hH))) | ((first | refine CT ?_ | (refine DT ?_ ?_ <;> intro hc <;> try (exfalso; omega))) <;> repeat' refine CT ?_) | (first | (refine DSK ?_; clear hA a; intro a hA) | (first | (refine DLT ?_; clear hA hH; rintro _ w ⟨oN, rfl, hH⟩; refine ⟨STT, ?_⟩; intro a hA) | (refine DAT ?_; clear hA; rintro _ w ⟨oN, cN, rfl, hH2⟩; clear hH; have hH := (hH2 _ (by (repeat constructor))).tail; clear hH2; refine ⟨STT, ?_⟩; intro a hA))) )
      refine ⟨_, hH.up 1 rfl, fun X' W2 hH => ?_⟩
      dsimp only [List.eraseIdx_cons_succ, List.eraseIdx_cons_zero] at hH
      apply wpIn_block
      have hls : (bl.is.l.getD j ins0) ∈ bl.is.l := getD_mem hj
      replace hH := hH.up 3 rfl
      dsimp only [List.eraseIdx_cons_succ, List.eraseIdx_cons_zero] at hH
      obtain ⟨ks1, hks1, hH1⟩ := hH.openP
      clear hH
      have hH := hH1.up 4 rfl
      clear hH1
      dsimp only [List.eraseIdx_cons_succ, List.eraseIdx_cons_zero] at hH
      obtain ⟨bs, hH1⟩ := hH.exI_open
      clear hH
      obtain ⟨hC, hH2⟩ := hH1.facI_open
      clear hH1
      have hspB := (hH2.open_).own_sp (T := 72) (o := oB) (n := bs.length) (.head _)
      rw [hC.1] at hspB
      have hH := (hH2.up 1 rfl)
      clear hH2
      dsimp only [List.eraseIdx_cons_succ, List.eraseIdx_cons_zero] at hH
      apply wpIn_seq
      refine rd_draw (H := [cb b8 80 [.slice oB bl.is.l.length cB], cb b9 72 [.map (some b)]]) [(0, 1), (1, 1), (2, 1), (3, 0), (4, 1), (5, 0)] mixed rfl (by decide +kernel) (HS.left (H1 := [_, _]) (H2 := _ :: _ :: _ :: _ :: _ :: _ :: _ :: _ :: _ :: _ :: _ :: _ :: H) (hH.perm (by (repeat (first | exact List.Perm.refl _ | exact List.Perm.nil | refine perm_pick 0 rfl ?_ | refine perm_pick 1 rfl ?_ | refine perm_pick 2 rfl ?_ | refine perm_pick 3 rfl ?_ | refine perm_pick 4 rfl ?_ | refine perm_pick 5 rfl ?_ | refine perm_pick 6 rfl ?_ | refine perm_pick 7 rfl ?_ | refine perm_pick 8 rfl ?_ | refine perm_pick 9 rfl ?_ | refine perm_pick 10 rfl ?_ | refine perm_pick 11 rfl ?_))))) ?_
      replace hH := hH.drew
      repeat' (first | (first | (refine GT ?_ ?_ <;> intro hg <;> clear hA a <;> intro a hA <;> (first | exact FA | replace hg := of_decide_eq_true hg | replace hg := of_decide_eq_false hg | skip)) | (refine QT ?_; clear hA a; intro a hA) | (first | (refine BT ?_; clear hA hH; rintro _ w ⟨bN, rfl, hH⟩ a hA) | (refine LT ?_; clear hA hH; rintro _ w ⟨oN, rfl, hH⟩ a hA) | (refine AT ?_; clear hA; rintro _ w ⟨oN, cN, rfl, hH2⟩ a hA; clear hH; have hH := (hH2 _ (by (repeat constructor))).tail; clear hH2) | (refine S0T ?_; clear hH; rintro _ w hH) )) | ((first | refine CT ?_ | (refine DT ?_ ?_ <;> intro hc <;> try (exfalso; omega))) <;> repeat' refine CT ?_) | (first | (refine DSK ?_; clear hA a; intro a hA) | (first | (refine DLT ?_; clear hA hH; rintro _ w ⟨oN, rfl, hH⟩; refine ⟨STT, ?_⟩; intro a hA) | (refine DAT ?_; clear hA; rintro _ w ⟨oN, cN, rfl, hH2⟩; clear hH; have hH := (hH2 _ (by (repeat constructor))).tail; clear hH2; refine ⟨STT, ?_⟩; intro a hA))) )
      (refine dr_op hA rfl rfl rfl (by decide) (op_call rfl rfl rfl (clone_spec w0 _ _ b ks1 hH)) ?_; clear hA hH; rintro _ w ⟨bC, ksC, rfl, hkC, hH⟩; refine ⟨HS.left (H1 := [_, _]) hH.tail.tail.tail.tail.tail.tail.tail, ?_⟩; intro a hA)
      replace hH := (hH.up 2 rfl).open_
      dsimp only [List.eraseIdx_cons_succ, List.eraseIdx_cons_zero, List.cons_append, List.nil_append] at hH
      have hjb : j * 1 < bs.length := by rw [hC.1]; omega
      repeat' (first | (first | (refine GT ?_ ?_ <;> intro hg <;> clear hA a <;> intro a hA <;> (first | exact FA | replace hg := of_decide_eq_true hg | replace hg := of_decide_eq_false hg | skip)) | ((first | apply st_ex hA hH rfl rfl (by decide) | apply dr_ex hA rfl rfl rfl (by decide) | apply dr_exp hA rfl rfl rfl (by decide) | apply dr_ex3 hA hH rfl rfl rfl (by decide)); (first | (apply ex_indexAddr_nat; rfl; rfl; omega; exact hspB)); clear hA a; intro a hA) | (refine QT ?_; clear hA a; intro a hA) | (first | (refine BT ?_; clear hA hH; rintro _ w ⟨bN, rfl, hH⟩ a hA) | (refine LT ?_; clear hA hH; rintro _ w ⟨oN, rfl, hH⟩ a hA) | (refine AT ?_; clear hA; rintro _ w ⟨oN, cN, rfl, hH2⟩ a hA; clear hH; have hH := (hH2 _ (by (repeat constructor))).tail; clear hH2) | (refine S0T ?_; clear hH; rintro _ w hH) )) | ((first | refine CT ?_ | (refine DT ?_ ?_ <;> intro hc <;> try (exfalso; omega))) <;> repeat' refine CT ?_) | (first | (refine DSK ?_; clear hA a; intro a hA) | (first | (refine DLT ?_; clear hA hH; rintro _ w ⟨oN, rfl, hH⟩; refine ⟨STT, ?_⟩; intro a hA) | (refine DAT ?_; clear hA; rintro _ w ⟨oN, cN, rfl, hH2⟩; clear hH; have hH := (hH2 _ (by (repeat constructor))).tail; clear hH2; refine ⟨STT, ?_⟩; intro a hA))) )
      (apply dr_op0 hA rfl rfl rfl; apply op_set1 (enc := encO) (y0 := some (bC, ksC)); rfl; rfl; rfl; rfl; exact encO_len; exact hH; (repeat constructor); exact hjb; clear hH; rintro _ w hH; refine ⟨HS.left (H1 := [_, _]) hH.tail.tail.tail.tail.tail.tail.tail.tail, ?_⟩)
      rw [Nat.mul_one] at hH
      have hC2 := clone_set (b := bC) (ks := ksC) hC hj hks1 hkC
      apply dr_nil
      show Exit.then _ _ _ _ _
      refine then_normal ?_
      refine rd_region rfl ?_
      repeat' (first | (first | (refine GT ?_ ?_ <;> intro hg <;> clear hA a <;> intro a hA <;> (first | exact FA | replace hg := of_decide_eq_true hg | replace hg := of_decide_eq_false hg | skip)) | (refine QT ?_; clear hA a; intro a hA) | (first | (refine BT ?_; clear hA hH; rintro _ w ⟨bN, rfl, hH⟩ a hA) | (refine LT ?_; clear hA hH; rintro _ w ⟨oN, rfl, hH⟩ a hA) | (refine AT ?_; clear hA; rintro _ w ⟨oN, cN, rfl, hH2⟩ a hA; clear hH; have hH := (hH2 _ (by (repeat constructor))).tail; clear hH2) | (refine S0T ?_; clear hH; rintro _ w hH) )) | ((first | refine CT ?_ | (refine DT ?_ ?_ <;> intro hc <;> try (exfalso; omega))) <;> repeat' refine CT ?_) | (first | (refine DSK ?_; clear hA a; intro a hA) | (first | (refine DLT ?_; clear hA hH; rintro _ w ⟨oN, rfl, hH⟩; refine ⟨STT, ?_⟩; intro a hA) | (refine DAT ?_; clear hA; rintro _ w ⟨oN, cN, rfl, hH2⟩; clear hH; have hH := (hH2 _ (by (repeat constructor))).tail; clear hH2; refine ⟨STT, ?_⟩; intro a hA))) )
      have hjm : j < (bs.map sko).length := by rw [List.length_map]; omega
      replace hH := (hH.up 1 rfl).openAt (List.getElem?_eq_getElem hjm)
      dsimp only [List.eraseIdx_cons_succ, List.eraseIdx_cons_zero] at hH
      replace hH := (hH.tail.up 2 rfl).shutAt (x := sk bC ksC) hjm
      dsimp only [List.eraseIdx_cons_succ, List.eraseIdx_cons_zero] at hH
      rw [map_sko_set, len_set bs j (some (bC, ksC))] at hH
      generalize bs.set j (some (bC, ksC)) = bs1 at hH hC2
      replace hH := hH.up 2 rfl
      dsimp only [List.eraseIdx_cons_succ, List.eraseIdx_cons_zero] at hH
      (refine st_op hA rfl rfl (by decide) (op_call rfl rfl rfl (step_spec w0 _ _ b ks1 (bl.is.l.getD j ins0) hH (hbR.2.2.1 _ (getD_mem hj)))) ?_; clear hA hH; rintro _ w ⟨ks2, hks2, hH⟩ a hA)
      repeat' (first | (first | (refine GT ?_ ?_ <;> intro hg <;> clear hA a <;> intro a hA <;> (first | exact FA | replace hg := of_decide_eq_true hg | replace hg := of_decide_eq_false hg | skip)) | (refine QT ?_; clear hA a; intro a hA) | (first | (refine BT ?_; clear hA hH; rintro _ w ⟨bN, rfl, hH⟩ a hA) | (refine LT ?_; clear hA hH; rintro _ w ⟨oN, rfl, hH⟩ a hA) | (refine AT ?_; clear hA; rintro _ w ⟨oN, cN, rfl, hH2⟩ a hA; clear hH; have hH := (hH2 _ (by (repeat constructor))).tail; clear hH2) | (refine S0T ?_; clear hH; rintro _ w hH) )) | ((first | refine CT ?_ | (refine DT ?_ ?_ <;> intro hc <;> try (exfalso; omega))) <;> repeat' refine CT ?_) | (first | (refine DSK ?_; clear hA a; intro a hA) | (first | (refine DLT ?_; clear hA hH; rintro _ w ⟨oN, rfl, hH⟩; refine ⟨STT, ?_⟩; intro a hA) | (refine DAT ?_; clear hA; rintro _ w ⟨oN, cN, rfl, hH2⟩; clear hH; have hH := (hH2 _ (by (repeat constructor))).tail; clear hH2; refine ⟨STT, ?_⟩; intro a hA))) )
      replace hH := HS.exI_shut (f := fun bs => facI (CloneOk bl ss bs j) (all [own 72 1 oB bs.length cB (flat encO bs), all (bs.map sko)])) bs1 (HS.facI_shut hC2 (HS.shut (L := [_, _]) ((hH.up 1 rfl).up 2 rfl)))
      dsimp only [List.eraseIdx_cons_succ, List.eraseIdx_cons_zero] at hH
      replace hH := HS.shutP (hH.up 1 rfl) (insP_at hj hks1 hks2)
      dsimp only [List.eraseIdx_cons_succ, List.eraseIdx_cons_zero] at hH
      exact (hH.rm 3).perm (by (repeat (first | exact List.Perm.refl _ | exact List.Perm.nil | refine perm_pick 0 rfl ?_ | refine perm_pick 1 rfl ?_ | refine perm_pick 2 rfl ?_ | refine perm_pick 3 rfl ?_ | refine perm_pick 4 rfl ?_ | refine perm_pick 5 rfl ?_ | refine perm_pick 6 rfl ?_ | refine perm_pick 7 rfl ?_ | refine perm_pick 8 rfl ?_ | refine perm_pick 9 rfl ?_ | refine perm_pick 10 rfl ?_ | refine perm_pick 11 rfl ?_)))
    clear hA hH
    intro D a w hA hH
    rw [List.drop_zero] at hH
    repeat' (first | (first | (refine GT ?_ ?_ <;> intro hg <;> clear hA a <;> intro a hA <;> (first | exact FA | replace hg := of_decide_eq_true hg | replace hg := of_decide_eq_false hg | skip)) | (refine QT ?_; clear hA a; intro a hA) | (first | (refine BT ?_; clear hA hH; rintro _ w ⟨bN, rfl, hH⟩ a hA) | (refine LT ?_; clear hA hH; rintro _ w ⟨oN, rfl, hH⟩ a hA) | (refine AT ?_; clear hA; rintro _ w ⟨oN, cN, rfl, hH2⟩ a hA; clear hH; have hH := (hH2 _ (by (repeat constructor))).tail; clear hH2) | (refine S0T ?_; clear hH; rintro _ w hH) )) | ((first | refine CT ?_ | (refine DT ?_ ?_ <;> intro hc <;> try (exfalso; omega))) <;> repeat' refine CT ?_) | (first | (refine DSK ?_; clear hA a; intro a hA) | (first | (refine DLT ?_; clear hA hH; rintro _ w ⟨oN, rfl, hH⟩; refine ⟨STT, ?_⟩; intro a hA) | (refine DAT ?_; clear hA; rintro _ w ⟨oN, cN, rfl, hH2⟩; clear hH; have hH := (hH2 _ (by (repeat constructor))).tail; clear hH2; refine ⟨STT, ?_⟩; intro a hA))) )
    replace hH := hH.up 1 rfl
    dsimp only [List.eraseIdx_cons_succ, List.eraseIdx_cons_zero] at hH
    obtain ⟨ksx, _, hH1⟩ := hH.openP
    clear hH
    have hH := hH1.tail.up 1 rfl
    clear hH1
    dsimp only [List.eraseIdx_cons_succ, List.eraseIdx_cons_zero] at hH
    obtain ⟨bs, hH1⟩ := hH.exI_open
    clear hH
    obtain ⟨hC, hH2⟩ := hH1.facI_open
    clear hH1
    have hH := dfi_cons (hH2.perm (H' := all (L.map dfi) :: dfi D :: all [own 72 1 oB bs.length cB (flat encO bs), all (bs.map sko)] :: inv s2 :: own 72 1 oI ss.length cI (flat encO ss) :: all (ss.map sko) :: cb b7 52 (encBl bl) :: cb bF 30 (encG f) :: cb b8 80 [.slice oB bl.is.l.length cB] :: cb bI 45 [.slice bl.is.o bl.is.l.length bl.is.c] :: cb b9 72 [.map (some b)] :: H) (by (repeat (first | exact List.Perm.refl _ | exact List.Perm.nil | refine perm_pick 0 rfl ?_ | refine perm_pick 1 rfl ?_ | refine perm_pick 2 rfl ?_ | refine perm_pick 3 rfl ?_ | refine perm_pick 4 rfl ?_ | refine perm_pick 5 rfl ?_ | refine perm_pick 6 rfl ?_ | refine perm_pick 7 rfl ?_ | refine perm_pick 8 rfl ?_ | refine perm_pick 9 rfl ?_ | refine perm_pick 10 rfl ?_ | refine perm_pick 11 rfl ?_))))
    clear hH2
    have hH3 := (hH.up 1 rfl).open_
    clear hH
    dsimp only [List.eraseIdx_cons_succ, List.eraseIdx_cons_zero, List.cons_append, List.nil_append] at hH3
    have hspB := hH3.own_sp (T := 72) (o := oB) (n := bs.length) (.head _)
    rw [hC.1] at hspB
    have hH := (hH3.rm 9).rm 9
    clear hH3
    dsimp only [List.eraseIdx_cons_succ, List.eraseIdx_cons_zero] at hH
    refine wp_lpk (S := Nat) (fun i a w => ∃ (pl : List Pl) (s1 : S) (bs : List (Option (Nat × List Int))), (i ≤ bl.is.l.length ∧ FA2 (IsAt f ss) (slots f n ++ slotB n i) pl ∧ goes at_ s0 pl = some s1 ∧ CloneOk bl ss bs i) ∧
        HS w0 noM (cb b8 80 [.slice oB bl.is.l.length cB] :: own 72 1 oB bs.length cB (flat encO bs) :: all (bs.map sko) :: inv s1 :: all ((D :: L).map dfi) :: own 72 1 oI ss.length cI (flat encO ss) :: all (ss.map sko) :: cb b7 52 (encBl bl) :: cb bF 30 (encG f) :: H) w ∧
        Sl 79 [(56, .int .i64 i), (55, .int .i64 bl.is.l.length), (54, .slice bl.is.o bl.is.l.length bl.is.c), (8, .pointer (some (bat b8 0))), (19, .int .i64 n), (18, .int .i64 f.bs.l.length), (17, .slice f.bs.o f.bs.l.length f.bs.c), (5, .slice oI ss.length cI), (2, .pointer (some (bat bF 0))), (1, .func (.func gf) #[] cap)] a ((D :: L).map dmk)) (fun i => bl.is.l.length - i)
      (fun a w => ∃ (pl : List Pl) (s1 : S), (FA2 (IsAt f ss) (slots f n ++ slotB n bl.is.l.length) pl ∧ goes at_ s0 pl = some s1) ∧
        HS w0 noM (inv s1 :: all ((D :: L).map dfi) :: own 72 1 oI ss.length cI (flat encO ss) :: all (ss.map sko) :: cb b7 52 (encBl bl) :: cb bF 30 (encG f) :: H) w ∧
        Sl 79 [(19, .int .i64 n), (18, .int .i64 f.bs.l.length), (17, .slice f.bs.o f.bs.l.length f.bs.c), (5, .slice oI ss.length cI), (2, .pointer (some (bat bF 0))), (1, .func (.func gf) #[] cap)] a ((D :: L).map dmk)) 0
      ⟨_, s2, bs, ⟨Nat.zero_le _, (by unfold slotB; exact hpl1), hgo1, hC⟩, hH.perm (by (repeat (first | exact List.Perm.refl _ | exact List.Perm.nil | refine perm_pick 0 rfl ?_ | refine perm_pick 1 rfl ?_ | refine perm_pick 2 rfl ?_ | refine perm_pick 3 rfl ?_ | refine perm_pick 4 rfl ?_ | refine perm_pick 5 rfl ?_ | refine perm_pick 6 rfl ?_ | refine perm_pick 7 rfl ?_ | refine perm_pick 8 rfl ?_ | refine perm_pick 9 rfl ?_ | refine perm_pick 10 rfl ?_ | refine perm_pick 11 rfl ?_))), (hA.sub (by (repeat (first | exact trivial | refine ⟨rfl, ?_⟩))))⟩ ?_ ?_
    · clear hA hH hC hpl1 hgo1 hs2 hks
      rintro i a w ⟨pl, s1, bs, ⟨hi, hpl, hgo, hC⟩, hH, hA⟩
      by_cases hlti : i < bl.is.l.length
      rotate_left
      · obtain rfl : i = bl.is.l.length := by omega
        repeat' (first | (first | (refine GT ?_ ?_ <;> intro hg <;> clear hA a <;> intro a hA <;> (first | exact FA | replace hg := of_decide_eq_true hg | replace hg := of_decide_eq_false hg | skip)) | (refine QT ?_; clear hA a; intro a hA) | (first | (refine BT ?_; clear hA hH; rintro _ w ⟨bN, rfl, hH⟩ a hA) | (refine LT ?_; clear hA hH; rintro _ w ⟨oN, rfl, hH⟩ a hA) | (refine AT ?_; clear hA; rintro _ w ⟨oN, cN, rfl, hH2⟩ a hA; clear hH; have hH := (hH2 _ (by (repeat constructor))).tail; clear hH2) | (refine S0T ?_; clear hH; rintro _ w hH) )) | ((first | refine CT ?_ | (refine DT ?_ ?_ <;> intro hc <;> try (exfalso; omega))) <;> repeat' refine CT ?_) | (first | (refine DSK ?_; clear hA a; intro a hA) | (first | (refine DLT ?_; clear hA hH; rintro _ w ⟨oN, rfl, hH⟩; refine ⟨STT, ?_⟩; intro a hA) | (refine DAT ?_; clear hA; rintro _ w ⟨oN, cN, rfl, hH2⟩; clear hH; have hH := (hH2 _ (by (repeat constructor))).tail; clear hH2; refine ⟨STT, ?_⟩; intro a hA))) )
        exact ⟨pl, s1, ⟨hpl, hgo⟩, hH.tail.tail.tail, (hA.sub (by (repeat (first | exact trivial | refine ⟨rfl, ?_⟩))))⟩
      obtain ⟨ins, hins⟩ : ∃ x, bl.is.l[i]? = some x := ⟨_, List.getElem?_eq_getElem hlti⟩
      have hvi := flat_all encIn_len hins
      obtain ⟨p, hbp, hpk⟩ := hC.2 i (Nat.le_refl _) hlti
      have hvB : (flat encO bs)[i * 1]? = some (.map (some p.1)) := flat_get (off := 0) encO_len hbp rfl
      have hsmB : (bs.map sko)[i]? = some (sk p.1 p.2) := by rw [List.getElem?_map, hbp]; exact congrArg some (sko_some _ _)
      have hib : i < (bs.map sko).length := by rw [List.length_map, hC.1]; omega
      repeat' (first | (first | (refine GT ?_ ?_ <;> intro hg <;> clear hA a <;> intro a hA <;> (first | exact FA | replace hg := of_decide_eq_true hg | replace hg := of_decide_eq_false hg | skip)) | ((first | apply st_ex hA hH rfl rfl (by decide) | apply dr_ex hA rfl rfl rfl (by decide) | apply dr_exp hA rfl rfl rfl (by decide) | apply dr_ex3 hA hH rfl rfl rfl (by decide)); (first | (apply ex_load_st (vs := encIn ins); rfl; rfl; exact cls_rd hbR.2.1.1 id hvi) | (apply ex_indexAddr_nat; rfl; rfl; omega; exact hspIs)); clear hA a; intro a hA) | (refine QT ?_; clear hA a; intro a hA) | (first | (refine BT ?_; clear hA hH; rintro _ w ⟨bN, rfl, hH⟩ a hA) | (refine LT ?_; clear hA hH; rintro _ w ⟨oN, rfl, hH⟩ a hA) | (refine AT ?_; clear hA; rintro _ w ⟨oN, cN, rfl, hH2⟩ a hA; clear hH; have hH := (hH2 _ (by (repeat constructor))).tail; clear hH2) | (refine S0T ?_; clear hH; rintro _ w hH) | (apply st_op0 hA rfl rfl; apply op_store_agg (vs := encIn ins); rfl; rfl; exact hH; (repeat constructor); (repeat rfl); clear hH; rintro _ w hH))) | ((first | refine CT ?_ | (refine DT ?_ ?_ <;> intro hc <;> try (exfalso; omega))) <;> repeat' refine CT ?_) | (first | (refine DSK ?_; clear hA a; intro a hA) | (first | (refine DLT ?_; clear hA hH; rintro _ w ⟨oN, rfl, hH⟩; refine ⟨STT, ?_⟩; intro a hA) | (refine DAT ?_; clear hA; rintro _ w ⟨oN, cN, rfl, hH2⟩; clear hH; have hH := (hH2 _ (by (repeat constructor))).tail; clear hH2; refine ⟨STT, ?_⟩; intro a hA))) )
      replace hH := (hH.up 3 rfl).openAt hsmB
      dsimp only [List.eraseIdx_cons_succ, List.eraseIdx_cons_zero] at hH
      have hnp := hH.sk_nodup (b := p.1) (ks := p.2) (.head _)
      replace hH := hH.perm (H' := cb bN 58 (encIn ins) :: cb b8 80 [.slice oB bl.is.l.length cB] :: own 72 1 oB bs.length cB (flat encO bs) :: sk p.1 p.2 :: all ((bs.map sko).eraseIdx i) :: inv s1 :: all ((D :: L).map dfi) :: own 72 1 oI ss.length cI (flat encO ss) :: all (ss.map sko) :: cb b7 52 (encBl bl) :: cb bF 30 (encG f) :: H) (by (repeat (first | exact List.Perm.refl _ | exact List.Perm.nil | refine perm_pick 0 rfl ?_ | refine perm_pick 1 rfl ?_ | refine perm_pick 2 rfl ?_ | refine perm_pick 3 rfl ?_ | refine perm_pick 4 rfl ?_ | refine perm_pick 5 rfl ?_ | refine perm_pick 6 rfl ?_ | refine perm_pick 7 rfl ?_ | refine perm_pick 8 rfl ?_ | refine perm_pick 9 rfl ?_ | refine perm_pick 10 rfl ?_ | refine perm_pick 11 rfl ?_)))
      have hST := HS.left (H1 := [_, _, _]) hH
      (refine wp_draw_HS (H := [_, _, _]) [(0, 1), (1, 1), (2, 1), (3, 1), (4, 1), (5, 1), (6, 0)] mixed (by decide +kernel) (hST) ?_; replace hH := hH.drew)
      clear hST
      repeat' (first | (first | (refine GT ?_ ?_ <;> intro hg <;> clear hA a <;> intro a hA <;> (first | exact FA | replace hg := of_decide_eq_true hg | replace hg := of_decide_eq_false hg | skip)) | ((first | apply st_ex hA hH rfl rfl (by decide) | apply dr_ex hA rfl rfl rfl (by decide) | apply dr_exp hA rfl rfl rfl (by decide) | apply dr_ex3 hA hH rfl rfl rfl (by decide)); (first | (apply ex_indexAddr_nat; rfl; rfl; omega; exact hspB) | (apply ex_load; rfl; apply cl_own (T := 72); exact MEMT; exact hvB)); clear hA a; intro a hA) | (refine QT ?_; clear hA a; intro a hA) | (first | (refine BT ?_; clear hA hH; rintro _ w ⟨bN, rfl, hH⟩ a hA) | (refine LT ?_; clear hA hH; rintro _ w ⟨oN, rfl, hH⟩ a hA) | (refine AT ?_; clear hA; rintro _ w ⟨oN, cN, rfl, hH2⟩ a hA; clear hH; have hH := (hH2 _ (by (repeat constructor))).tail; clear hH2) | (refine S0T ?_; clear hH; rintro _ w hH) )) | ((first | refine CT ?_ | (refine DT ?_ ?_ <;> intro hc <;> try (exfalso; omega))) <;> repeat' refine CT ?_) | (first | (refine DSK ?_; clear hA a; intro a hA) | (first | (refine DLT ?_; clear hA hH; rintro _ w ⟨oN, rfl, hH⟩; refine ⟨STT, ?_⟩; intro a hA) | (refine DAT ?_; clear hA; rintro _ w ⟨oN, cN, rfl, hH2⟩; clear hH; have hH := (hH2 _ (by (repeat constructor))).tail; clear hH2; refine ⟨STT, ?_⟩; intro a hA))) )
      (first | (apply dr_op0 hA rfl rfl rfl; apply op_delK; rfl; rfl; exact hH; (repeat constructor); clear hH; rintro _ w ⟨_, hH⟩; refine ⟨HS.left (H1 := [_, _, _]) hH, ?_⟩) | (apply dr_op hA rfl rfl rfl (by decide); apply op_delK; rfl; rfl; exact hH; (repeat constructor); clear hA hH; rintro _ w ⟨rfl, hH⟩; refine ⟨HS.left (H1 := [_, _, _]) hH, ?_⟩; intro a hA))
      repeat' (first | (first | (refine GT ?_ ?_ <;> intro hg <;> clear hA a <;> intro a hA <;> (first | exact FA | replace hg := of_decide_eq_true hg | replace hg := of_decide_eq_false hg | skip)) | (refine QT ?_; clear hA a; intro a hA) | (first | (refine BT ?_; clear hA hH; rintro _ w ⟨bN, rfl, hH⟩ a hA) | (refine LT ?_; clear hA hH; rintro _ w ⟨oN, rfl, hH⟩ a hA) | (refine AT ?_; clear hA; rintro _ w ⟨oN, cN, rfl, hH2⟩ a hA; clear hH; have hH := (hH2 _ (by (repeat constructor))).tail; clear hH2) | (refine S0T ?_; clear hH; rintro _ w hH) )) | ((first | refine CT ?_ | (refine DT ?_ ?_ <;> intro hc <;> try (exfalso; omega))) <;> repeat' refine CT ?_) | (first | (refine DSK ?_; clear hA a; intro a hA) | (first | (refine DLT ?_; clear hA hH; rintro _ w ⟨oN, rfl, hH⟩; refine ⟨STT, ?_⟩; intro a hA) | (refine DAT ?_; clear hA; rintro _ w ⟨oN, cN, rfl, hH2⟩; clear hH; have hH := (hH2 _ (by (repeat constructor))).tail; clear hH2; refine ⟨STT, ?_⟩; intro a hA))) )
      have hnd := hH.sk_nodup (b := p.1) (ks := sdel p.2 ins.x) (.tail _ (.tail _ (.tail _ (.head _))))
      have hIs := isAt_i (b := p.1) hbl hins hpk hnd
      have hkl := hK _ _ hIs
      rw [← sko_some] at hH
      have hST := HS.left (H1 := [_, _, _]) hH
      (refine wp_draw_HS (H := [_, _, _]) [(0, 1), (1, 1), (2, 1), (4, 1), (5, 1), (6, 1), (7, 1), (3, 0), (8, 0), (9, 1)] mixed (by decide +kernel) (hST) ?_; replace hH := hH.drew)
      clear hST
      repeat' (first | (first | (refine GT ?_ ?_ <;> intro hg <;> clear hA a <;> intro a hA <;> (first | exact FA | replace hg := of_decide_eq_true hg | replace hg := of_decide_eq_false hg | skip)) | ((first | apply st_ex hA hH rfl rfl (by decide) | apply dr_ex hA rfl rfl rfl (by decide) | apply dr_exp hA rfl rfl rfl (by decide) | apply dr_ex3 hA hH rfl rfl rfl (by decide)); (first | (apply ex_indexAddr_nat; rfl; rfl; omega; exact hspB) | (apply ex_load; rfl; apply cl_own (T := 72); exact MEMT; exact hvB)); clear hA a; intro a hA) | (refine QT ?_; clear hA a; intro a hA) | (first | (refine BT ?_; clear hA hH; rintro _ w ⟨bN, rfl, hH⟩ a hA) | (refine LT ?_; clear hA hH; rintro _ w ⟨oN, rfl, hH⟩ a hA) | (refine AT ?_; clear hA; rintro _ w ⟨oN, cN, rfl, hH2⟩ a hA; clear hH; have hH := (hH2 _ (by (repeat constructor))).tail; clear hH2) | (refine S0T ?_; clear hH; rintro _ w hH) )) | ((first | refine CT ?_ | (refine DT ?_ ?_ <;> intro hc <;> try (exfalso; omega))) <;> repeat' refine CT ?_) | (first | (refine DSK ?_; clear hA a; intro a hA) | (first | (refine DLT ?_; clear hA hH; rintro _ w ⟨oN, rfl, hH⟩; refine ⟨STT, ?_⟩; intro a hA) | (refine DAT ?_; clear hA; rintro _ w ⟨oN, cN, rfl, hH2⟩; clear hH; have hH := (hH2 _ (by (repeat constructor))).tail; clear hH2; refine ⟨STT, ?_⟩; intro a hA))) )
      (apply dr_op hA rfl rfl rfl (by decide); apply op_sliceLit; rfl; rfl; exact CATST; rfl; rfl; rfl; exact hH; clear hA hH; rintro _ w ⟨oN, rfl, hH⟩; refine ⟨HS.left (H1 := [_, _, _]) hH.tail, ?_⟩; intro a hA)
      rw [← flatI_one] at hH
      replace hH := hH.perm (H' := inv s1 :: sko (some (p.1, sdel p.2 ins.x)) :: cb bN 58 (encIn ins) :: cb b8 80 [.slice oB bl.is.l.length cB] :: own 72 1 oB bs.length cB (flat encO bs) :: own 3 1 oN 1 1 (flat Fw.encI [ins.x]) :: all ((bs.map sko).eraseIdx i) :: all ((D :: L).map dfi) :: own 72 1 oI ss.length cI (flat encO ss) :: all (ss.map sko) :: cb b7 52 (encBl bl) :: cb bF 30 (encG f) :: H) (by (repeat (first | exact List.Perm.refl _ | exact List.Perm.nil | refine perm_pick 0 rfl ?_ | refine perm_pick 1 rfl ?_ | refine perm_pick 2 rfl ?_ | refine perm_pick 3 rfl ?_ | refine perm_pick 4 rfl ?_ | refine perm_pick 5 rfl ?_ | refine perm_pick 6 rfl ?_ | refine perm_pick 7 rfl ?_ | refine perm_pick 8 rfl ?_ | refine perm_pick 9 rfl ?_ | refine perm_pick 10 rfl ?_ | refine perm_pick 11 rfl ?_)))
      (refine dr_op hA rfl rfl rfl (by decide) (op_call rfl rfl (by simp [mvO_some]) (hat _ s1 (some (p.1, sdel p.2 ins.x)) oN 1 [ins.x] false _ hH (fun w' h => h.own_rd (T := 3) (n := 1) (cap := 1) (sz := 1) (by exact MEMT)) (hH.own_sp (T := 3) (n := 1) (cap := 1) (by exact MEMT)) (by show 1 ≤ _; omega) hkl)) ?_; clear hA hH)
      rintro _ w (⟨s2', hs2', rfl, hH⟩ | ⟨hno, rfl, hH⟩)
      rotate_left
      · refine ⟨HS.left (H1 := [_, _, _]) hH, ?_⟩
        intro a hA
        repeat' (first | (first | (refine GT ?_ ?_ <;> intro hg <;> clear hA a <;> intro a hA <;> (first | exact FA | replace hg := of_decide_eq_true hg | replace hg := of_decide_eq_false hg | skip)) | (refine QT ?_; clear hA a; intro a hA) | (first | (refine BT ?_; clear hA hH; rintro _ w ⟨bN, rfl, hH⟩ a hA) | (refine LT ?_; clear hA hH; rintro _ w ⟨oN, rfl, hH⟩ a hA) | (refine AT ?_; clear hA; rintro _ w ⟨oN, cN, rfl, hH2⟩ a hA; clear hH; have hH := (hH2 _ (by (repeat constructor))).tail; clear hH2) | (refine S0T ?_; clear hH; rintro _ w hH) )) | ((first | refine CT ?_ | (refine DT ?_ ?_ <;> intro hc <;> try (exfalso; omega))) <;> repeat' refine CT ?_) | (first | (refine DSK ?_; clear hA a; intro a hA) | (first | (refine DLT ?_; clear hA hH; rintro _ w ⟨oN, rfl, hH⟩; refine ⟨STT, ?_⟩; intro a hA) | (refine DAT ?_; clear hA; rintro _ w ⟨oN, cN, rfl, hH2⟩; clear hH; have hH := (hH2 _ (by (repeat constructor))).tail; clear hH2; refine ⟨STT, ?_⟩; intro a hA))) )
        refine rt1M (.inl rfl) rfl hA rfl (hH.up 5 rfl) fun w hH => ⟨ss, hsl, hF, .inr ⟨_, _, s1, slot_mem hbl (slot_some hlti), hIs, hno, rfl, hH.tail.tail.tail.tail.tail.tail.tail.tail.tail⟩⟩
      have hpl1 := fa2_snoc hpl hIs
      rw [List.append_assoc, ← slotB_snoc] at hpl1
      have hgo1 := goes_snoc hgo hs2'
      clear hpl hgo
      refine ⟨HS.left (H1 := [_, _, _]) hH.tail.tail, ?_⟩
      intro a hA
      repeat' (first | (first | (refine GT ?_ ?_ <;> intro hg <;> clear hA a <;> intro a hA <;> (first | exact FA | replace hg := of_decide_eq_true hg | replace hg := of_decide_eq_false hg | skip)) | (refine QT ?_; clear hA a; intro a hA) | (first | (refine BT ?_; clear hA hH; rintro _ w ⟨bN, rfl, hH⟩ a hA) | (refine LT ?_; clear hA hH; rintro _ w ⟨oN, rfl, hH⟩ a hA) | (refine AT ?_; clear hA; rintro _ w ⟨oN, cN, rfl, hH2⟩ a hA; clear hH; have hH := (hH2 _ (by (repeat constructor))).tail; clear hH2) | (refine S0T ?_; clear hH; rintro _ w hH) )) | ((first | refine CT ?_ | (refine DT ?_ ?_ <;> intro hc <;> try (exfalso; omega))) <;> repeat' refine CT ?_) | (first | (refine DSK ?_; clear hA a; intro a hA) | (first | (refine DLT ?_; clear hA hH; rintro _ w ⟨oN, rfl, hH⟩; refine ⟨STT, ?_⟩; intro a hA) | (refine DAT ?_; clear hA; rintro _ w ⟨oN, cN, rfl, hH2⟩; clear hH; have hH := (hH2 _ (by (repeat constructor))).tail; clear hH2; refine ⟨STT, ?_⟩; intro a hA))) )
      have hH2 := hH.perm (H' := sko (some (p.1, sdel p.2 ins.x)) :: all ((bs.map sko).eraseIdx i) :: cb b8 80 [.slice oB bl.is.l.length cB] :: own 72 1 oB bs.length cB (flat encO bs) :: inv s2' :: all ((D :: L).map dfi) :: own 72 1 oI ss.length cI (flat encO ss) :: all (ss.map sko) :: cb b7 52 (encBl bl) :: cb bF 30 (encG f) :: cb bN 58 (encIn ins) :: own 3 1 oN 1 1 (flat Fw.encI [ins.x]) :: H) (by (repeat (first | exact List.Perm.refl _ | exact List.Perm.nil | refine perm_pick 0 rfl ?_ | refine perm_pick 1 rfl ?_ | refine perm_pick 2 rfl ?_ | refine perm_pick 3 rfl ?_ | refine perm_pick 4 rfl ?_ | refine perm_pick 5 rfl ?_ | refine perm_pick 6 rfl ?_ | refine perm_pick 7 rfl ?_ | refine perm_pick 8 rfl ?_ | refine perm_pick 9 rfl ?_ | refine perm_pick 10 rfl ?_ | refine perm_pick 11 rfl ?_)))
      clear hH
      have hH := ((hH2.shutAt (x := sko (some (p.1, sdel p.2 ins.x))) hib).rm 9).rm 9
      clear hH2
      dsimp only [List.eraseIdx_cons_succ, List.eraseIdx_cons_zero] at hH
      rw [sko_some, map_sko_set, len_set bs i (some (p.1, sdel p.2 ins.x)), ← flat_encO_set (ks' := sdel p.2 ins.x) hbp] at hH
      exact ⟨i + 1, ⟨_, s2', bs.set i (some (p.1, sdel p.2 ins.x)), ⟨hlti, hpl1, hgo1, clone_keep hC⟩, hH.perm (by (repeat (first | exact List.Perm.refl _ | exact List.Perm.nil | refine perm_pick 0 rfl ?_ | refine perm_pick 1 rfl ?_ | refine perm_pick 2 rfl ?_ | refine perm_pick 3 rfl ?_ | refine perm_pick 4 rfl ?_ | refine perm_pick 5 rfl ?_ | refine perm_pick 6 rfl ?_ | refine perm_pick 7 rfl ?_ | refine perm_pick 8 rfl ?_ | refine perm_pick 9 rfl ?_ | refine perm_pick 10 rfl ?_ | refine perm_pick 11 rfl ?_))), (hA.sub (by (repeat (first | exact trivial | refine ⟨rfl, ?_⟩))))⟩, by omega⟩
    clear hA hH hC hpl1 hgo1 hs2 hks
    rintro a w ⟨pl, s1, ⟨hpl, hgo⟩, hH, hA⟩
    rw [← slots_next hbl] at hpl
    repeat' (first | (first | (refine GT ?_ ?_ <;> intro hg <;> clear hA a <;> intro a hA <;> (first | exact FA | replace hg := of_decide_eq_true hg | replace hg := of_decide_eq_false hg | skip)) | (refine QT ?_; clear hA a; intro a hA) | (first | (refine BT ?_; clear hA hH; rintro _ w ⟨bN, rfl, hH⟩ a hA) | (refine LT ?_; clear hA hH; rintro _ w ⟨oN, rfl, hH⟩ a hA) | (refine AT ?_; clear hA; rintro _ w ⟨oN, cN, rfl, hH2⟩ a hA; clear hH; have hH := (hH2 _ (by (repeat constructor))).tail; clear hH2) | (refine S0T ?_; clear hH; rintro _ w hH) )) | ((first | refine CT ?_ | (refine DT ?_ ?_ <;> intro hc <;> try (exfalso; omega))) <;> repeat' refine CT ?_) | (first | (refine DSK ?_; clear hA a; intro a hA) | (first | (refine DLT ?_; clear hA hH; rintro _ w ⟨oN, rfl, hH⟩; refine ⟨STT, ?_⟩; intro a hA) | (refine DAT ?_; clear hA; rintro _ w ⟨oN, cN, rfl, hH2⟩; clear hH; have hH := (hH2 _ (by (repeat constructor))).tail; clear hH2; refine ⟨STT, ?_⟩; intro a hA))) )
    exact ⟨n + 1, ⟨D :: L, pl, s1, ⟨hlt, hpl, hgo⟩, (hH.rm 4).perm (by (repeat (first | exact List.Perm.refl _ | exact List.Perm.nil | refine perm_pick 0 rfl ?_ | refine perm_pick 1 rfl ?_ | refine perm_pick 2 rfl ?_ | refine perm_pick 3 rfl ?_ | refine perm_pick 4 rfl ?_ | refine perm_pick 5 rfl ?_ | refine perm_pick 6 rfl ?_ | refine perm_pick 7 rfl ?_ | refine perm_pick 8 rfl ?_ | refine perm_pick 9 rfl ?_ | refine perm_pick 10 rfl ?_ | refine perm_pick 11 rfl ?_))), (hA.sub (by (repeat (first | exact trivial | refine ⟨rfl, ?_⟩))))⟩, by omega⟩
  clear hA1 hH1
  rintro a w ⟨L, pl, s1, ⟨hpl, hgo⟩, hH, hA⟩
  repeat' (first | (first | (refine GT ?_ ?_ <;> intro hg <;> clear hA a <;> intro a hA <;> (first | exact FA | replace hg := of_decide_eq_true hg | replace hg := of_decide_eq_false hg | skip)) | (refine QT ?_; clear hA a; intro a hA) | (first | (refine BT ?_; clear hA hH; rintro _ w ⟨bN, rfl, hH⟩ a hA) | (refine LT ?_; clear hA hH; rintro _ w ⟨oN, rfl, hH⟩ a hA) | (refine AT ?_; clear hA; rintro _ w ⟨oN, cN, rfl, hH2⟩ a hA; clear hH; have hH := (hH2 _ (by (repeat constructor))).tail; clear hH2) | (refine S0T ?_; clear hH; rintro _ w hH) )) | ((first | refine CT ?_ | (refine DT ?_ ?_ <;> intro hc <;> try (exfalso; omega))) <;> repeat' refine CT ?_) | (first | (refine DSK ?_; clear hA a; intro a hA) | (first | (refine DLT ?_; clear hA hH; rintro _ w ⟨oN, rfl, hH⟩; refine ⟨STT, ?_⟩; intro a hA) | (refine DAT ?_; clear hA; rintro _ w ⟨oN, cN, rfl, hH2⟩; clear hH; have hH := (hH2 _ (by (repeat constructor))).tail; clear hH2; refine ⟨STT, ?_⟩; intro a hA))) )
  exact rt1M (.inl rfl) rfl hA rfl hH fun w hH => ⟨ss, hsl, hF, .inl ⟨pl, s1, hpl, hgo, rfl, hH⟩⟩
end Go.Proofs.Ytjfanjcoppeeaaa
namespace Go.Proofs.Ytjfanjcoppeeaaa
open Go Go.Fw
set_option linter.unusedVariables false
section
variable {P : Program} {N : Nat} {l : List (Nat × Value)} {a : Act} {d : Option Tmp} {T : TypeId} {pos : String} {af : Array Edge} {g : Option (Nat × Bool)}
theorem ex_lenI {t kt e b : Nat} {x : Operand} {m : List (Int × Int)} {w0 : World} {M : Nat → Prop} {H : List It} [ht : TMp P t kt e] (hx : ev l x = some (.map (some b))) (hm : mpI b m ∈ H) :
    Ex P N l (HS w0 M H) ⟨d, .call ⟨.builtin .len, #[x], #[t]⟩, T, pos, af, g⟩ (.int .i64 m.length) := by
  intro a w hA hH
  obtain ⟨F, es, clock, h1, h2, h3, h4⟩ := hH.sat hm
  have hl : es.length = m.length := by
    have := congrArg List.length h1
    simpa [encM] using this
  simp [execOp, resolve, invoke, builtin, Builtin.len_, hA.ev hx, run_underlying ht.eq, Go.Fw.run_getObj_map h4, goInt, hl]
theorem op_insertI {t kt e b : Nat} {kk : IntKind} {x y z : Operand} {m : List (Int × Int)} {k v : Int} {w0 w : World} {M : Nat → Prop} {H H' : List It} [ht : TMp P t kt e] [hk : TIn P kt kk]
    (hx : ev l x = some (.map (some b))) (hy : ev l y = some (.int .i64 k)) (hz : ev l z = some (.int .i64 v)) (hH : HS w0 M H w) (hr : Rp H (mpI b m) (mpI b (setI m k v)) H') :
    Op1 P N l ⟨d, .insert t x y z, T, pos, af, g⟩ w (fun _ w' => HS w0 M H' w') := by
  intro a hA K Q hK
  have h := op_mapUpdateI (P := P) (N := N) (d := d) (T := T) (pos := pos) (af := af) (g := g) (t := t) hx hy hz hH hr a hA K Q hK
  exact h
end
/-- the map of registers -/
def mkM (l : List Rg) : List (Int × Int) := l.foldl (fun m r => setI m r.v r.r) []
theorem mkM_next {l : List Rg} {i : Nat} {r : Rg} (h : l[i]? = some r) : mkM (l.take (i + 1)) = setI (mkM (l.take i)) r.v r.r := by
  unfold mkM
  rw [take_snoc h, List.foldl_append]
  rfl
theorem mkM_nil (l : List Rg) : mkM (l.take 0) = [] := by rw [List.take_zero]; rfl
theorem map_v_next {l : List Rg} {j : Nat} {x : Rg} (h : l[j]? = some x) : (l.take (j + 1)).map Rg.v = (l.take j).map Rg.v ++ [x.v] := by rw [take_snoc h, List.map_append]; rfl
theorem ge_next {l : List Rg} {i : Nat} {r : Rg} (h : l[i]? = some r) (hp : ∀ r ∈ l.take i, 0 ≤ r.r) (hr : ¬ r.r < 0) : ∀ r ∈ l.take (i + 1), 0 ≤ r.r := by
  intro s hs
  rw [take_snoc h] at hs
  rcases List.mem_append.1 hs with h1 | h1
  · exact hp s h1
  · rw [List.mem_singleton] at h1
    subst h1
    omega
/-! ## sets are told by what the graph says -/
theorem fix_uniq {f : Gr} (hU : Up f) {ss s2 : List (Option (Nat × List Int))} (h1 : ∀ n, FixAt f ss n) (h2 : ∀ n, FixAt f s2 n) (hl1 : ss.length = f.bs.l.length) (hl2 : s2.length = f.bs.l.length) :
    ∀ k n x, n + k = f.bs.l.length → (x ∈ setAt ss n ↔ x ∈ setAt s2 n) := by
  intro k
  induction k using Nat.strongRecOn with
  | _ k ih =>
    intro n x hk
    cases hb : f.bs.l[n]? with
    | none =>
      have := List.getElem?_eq_none_iff.1 hb
      have e1 : ss[n]? = none := List.getElem?_eq_none_iff.2 (by omega)
      have e2 : s2[n]? = none := List.getElem?_eq_none_iff.2 (by omega)
      unfold setAt
      rw [e1, e2]
    | some bl =>
      rw [h1 n bl hb, h2 n bl hb]
      unfold blkP
      refine and_congr (insP_congr (fun y => ?_) _ x) Iff.rfl
      unfold lastP
      refine or_congr Iff.rfl (exists_congr fun t => and_congr_right fun ht => ?_)
      unfold edgeP
      refine or_congr Iff.rfl (and_congr_right fun h0 => ?_)
      have hu := hU n bl hb t ht
      have hnl : n < f.bs.l.length := (List.getElem?_eq_some_iff.1 hb).1
      have := ih (f.bs.l.length - t.b.toNat) (by omega) t.b.toNat y (by omega)
      unfold setAt at this
      have e1 : ss[t.b.toNat]? = some (ss[t.b.toNat]'(by omega)) := List.getElem?_eq_getElem _
      have e2 : s2[t.b.toNat]? = some (s2[t.b.toNat]'(by omega)) := List.getElem?_eq_getElem _
      rw [e1, e2] at this ⊢
      simp only [Option.getD_some] at this
      simp only [Option.some.injEq, exists_eq_left']
      exact this
theorem setAt_uniq {f : Gr} (hU : Up f) {ss s2 : List (Option (Nat × List Int))} (h1 : ∀ n, FixAt f ss n) (h2 : ∀ n, FixAt f s2 n) (hl1 : ss.length = f.bs.l.length) (hl2 : s2.length = f.bs.l.length) (n : Nat) (x : Int) : x ∈ setAt ss n ↔ x ∈ setAt s2 n := by
  by_cases h : n ≤ f.bs.l.length
  · exact fix_uniq hU h1 h2 hl1 hl2 (f.bs.l.length - n) n x (by omega)
  · have e1 : ss[n]? = none := List.getElem?_eq_none_iff.2 (by omega)
    have e2 : s2[n]? = none := List.getElem?_eq_none_iff.2 (by omega)
    unfold setAt
    rw [e1, e2]
theorem lastP_uniq {ss s2 : List (Option (Nat × List Int))} (h : ∀ n x, x ∈ setAt ss n ↔ x ∈ setAt s2 n) (hl : ss.length = s2.length) (e : En) (x : Int) : lastP e ss x ↔ lastP e s2 x := by
  have key : ∀ n : Nat, (∃ s, ss[n]? = some s ∧ x ∈ kso s) ↔ (∃ s, s2[n]? = some s ∧ x ∈ kso s) := by
    intro n
    have := h n x
    unfold setAt at this
    by_cases hn : n < ss.length
    · rw [List.getElem?_eq_getElem hn, List.getElem?_eq_getElem (hl ▸ hn)] at this ⊢
      simpa using this
    · rw [List.getElem?_eq_none_iff.2 (by omega), List.getElem?_eq_none_iff.2 (by omega)]
  unfold lastP edgeP
  refine or_congr Iff.rfl (exists_congr fun t => and_congr_right fun ht => or_congr Iff.rfl (and_congr_right fun h0 => key _))
theorem isAt_uniq {f : Gr} {ss s2 : List (Option (Nat × List Int))} (h : ∀ n x, x ∈ setAt ss n ↔ x ∈ setAt s2 n) (hl : ss.length = s2.length) {sl : Nat × Option Nat} {p q : Pl} (hp : IsAt f ss sl p) (hq : IsAt f s2 sl q) : p.bs = q.bs ∧ p.b = q.b ∧ p.ks.Perm q.ks := by
  obtain ⟨n, o⟩ := sl
  obtain ⟨bl, hb, hn, hp⟩ := hp
  obtain ⟨bl', hb', hn', hq⟩ := hq
  rw [hb] at hb'
  cases hb'
  cases o with
  | none =>
    obtain ⟨h1, h2, h3⟩ := hp
    obtain ⟨g1, g2, g3⟩ := hq
    refine ⟨h1.trans g1.symm, h2.trans g2.symm, (List.perm_ext_iff_of_nodup hn hn').2 fun x => ?_⟩
    rw [h3, g3]
    exact h _ x
  | some i =>
    obtain ⟨ins, hi, h1, h2, h3⟩ := hp
    obtain ⟨ins', hi', g1, g2, g3⟩ := hq
    rw [hi] at hi'
    cases hi'
    refine ⟨h1.trans g1.symm, h2.trans g2.symm, (List.perm_ext_iff_of_nodup hn hn').2 fun x => ?_⟩
    rw [h3, g3]
    exact and_congr_right fun _ => insP_congr (lastP_uniq h hl _) _ x
theorem okPl_perm {m : List (Int × Int)} {p q : Pl} (h : p.bs = q.bs ∧ p.b = q.b ∧ p.ks.Perm q.ks) (hp : okPl m p) : okPl m q := by
  obtain ⟨h1, h2, h3⟩ := h
  obtain ⟨g1, g2, g3⟩ := hp
  have hm := h3.map (rgM m)
  refine ⟨fun hb => hm.nodup_iff.1 (g1 (h2.trans hb)), h1 ▸ g2, fun x hx hc => ?_⟩
  exact g3 x (h1.symm ▸ hx) (hm.mem_iff.2 hc)
/-- all places are right -/
def AllOk (f : Gr) (m : List (Int × Int)) : Prop := ∀ ss, ss.length = f.bs.l.length → (∀ n, FixAt f ss n) → ∀ sl ∈ slots f f.bs.l.length, ∀ p, IsAt f ss sl p → okPl m p
theorem goesR {m : List (Int × Int)} : ∀ {pl : List Pl} {s s' : Unit}, goes (atR m) s pl = some s' → ∀ p ∈ pl, okPl m p
  | q :: pl, s, s', h, p, hp => by
    change (atR m s q).bind _ = _ at h
    by_cases hq : okPl m q
    · have e : atR m s q = some () := by unfold atR; rw [if_pos hq]
      rw [e] at h
      rcases List.mem_cons.1 hp with rfl | hp
      · exact hq
      · exact goesR (s := ()) h p hp
    · have e : atR m s q = none := by unfold atR; rw [if_neg hq]
      rw [e] at h
      cases h
theorem fa2_mem {α β : Type} {R : α → β → Prop} {l : List α} {m : List β} (h : FA2 R l m) {x : α} (hx : x ∈ l) : ∃ y ∈ m, R x y := by
  induction h with
  | nil => cases hx
  | cons h1 _ ih =>
    rcases List.mem_cons.1 hx with rfl | hx
    · exact ⟨_, .head _, h1⟩
    · obtain ⟨y, hy, hr⟩ := ih hx
      exact ⟨y, .tail _ hy, hr⟩
theorem allOk_yes {f : Gr} (hU : Up f) {ss : List (Option (Nat × List Int))} (hl : ss.length = f.bs.l.length) (hF : ∀ n, FixAt f ss n) {m : List (Int × Int)} {pl : List Pl} (h : FA2 (IsAt f ss) (slots f f.bs.l.length) pl) {s s' : Unit} (hg : goes (atR m) s pl = some s') : AllOk f m := by
  intro s2 hl2 hF2 sl hsl p hp
  obtain ⟨q, hq, hr⟩ := fa2_mem h hsl
  exact okPl_perm (isAt_uniq (setAt_uniq hU hF hF2 hl hl2) (by omega) hr hp) (goesR hg q hq)
theorem allOk_no {f : Gr} {ss : List (Option (Nat × List Int))} (hl : ss.length = f.bs.l.length) (hF : ∀ n, FixAt f ss n) {m : List (Int × Int)} {sl : Nat × Option Nat} {p : Pl} (hs : sl ∈ slots f f.bs.l.length) (hp : IsAt f ss sl p) {s : Unit} (h : atR m s p = none) : ¬ AllOk f m := by
  intro ha
  have := ha ss hl hF sl hs p hp
  unfold atR at h
  rw [if_pos this] at h
  cases h
/-- what the program's Right asks -/
def RightP (f : Gr) (l : List Rg) : Prop := (∀ r ∈ l, 0 ≤ r.r) ∧ srt (l.map Rg.v) = srt (varsL f.bs.l) ∧ (mkM l).length = l.length ∧ rgM (mkM l) 0 = 0 ∧ rgM (mkM l) 1 = 1 ∧ AllOk f (mkM l)
/-- a graph that is small -/
structure Small (f : Gr) : Prop where
  bs : f.bs.l.length ≤ 100000
  vs : (varsL f.bs.l).length ≤ 1000000
  each : ∀ bl ∈ f.bs.l, bl.ps.l.length ≤ 1000000 ∧ bl.is.l.length ≤ 1000000
  sets : ∀ ss, ss.length = f.bs.l.length → (∀ n, FixAt f ss n) → ∀ sl p, IsAt f ss sl p → p.ks.length ≤ 1000000
theorem eq_take {l m : List Int} {i : Nat} {x y : Int} (hx : l[i]? = some x) (hy : m[i]? = some y) (h : l.take i = m.take i) (he : x = y) : l.take (i + 1) = m.take (i + 1) := by
  rw [take_snoc hx, take_snoc hy, h, he]
theorem no_iff {p : Prop} (h : ¬ p) : (false = true ↔ p) := ⟨fun h => (by cases h), fun hp => absurd hp h⟩
theorem yes_iff {p : Prop} (h : p) : (true = true ↔ p) := ⟨fun _ => h, fun _ => rfl⟩
set_option maxRecDepth 10000 attribute [local irreducible] Code.wp wpList Calls Ex Op1 sat bat blk cb own Go.Fw.mp Go.Fw.mpO Go.Fw.mpI Go.Fw.mpE Go.Fw.itr HS Rd Ret wkD Hp Cl Cls Exit.then Exit.inBlock Exit.noGoto bodyPost Go.Fw.flat wk2 Go.Fw.all Go.Fw.owns wpOp
attribute [local irreducible] sk mpK srt sko mvO insP blkP skP goes slots slotB varsL mkM AllOk rgM

set_option maxHeartbeats 4000000 in
theorem equalI_spec (w0 : World) (o1 o2 : Option Addr) (c1 c2 : Nat) (l1 l2 : List Int) (h1 : Rd w0 o1 (flat Fw.encI l1)) (h2 : Rd w0 o2 (flat Fw.encI l2)) (hl1 : l1.length ≤ 9223372036854775807) (hl2 : l2.length ≤ 9223372036854775807) :
    Ret Try.prog 20 #[.slice o1 l1.length c1, .slice o2 l2.length c2] w0 (fun v w => v = .bool (decide (l1 = l2)) ∧ Kp w0 noM w) := by
  have hH : HS w0 noM [] w0 := HS.init w0 noM
  have hsp1 : Sp o1 l1.length := h1.sp (sz := 1) (flat_length Fw.encI_len _) (by omega)
  have hsp2 : Sp o2 l2.length := h2.sp (sz := 1) (flat_length Fw.encI_len _) (by omega)
  (refine enter (N := 26) Try.func20 rfl Try.ntmps20 rfl ?_; intro a hA; dsimp only [sl0, Nat.reduceAdd] at hA)
  repeat' (first | (first | (refine GT ?_ ?_ <;> intro hg <;> clear hA a <;> intro a hA <;> (first | exact FA | replace hg := of_decide_eq_true hg | replace hg := of_decide_eq_false hg | skip)) | (refine QT ?_; clear hA a; intro a hA) | (first | (refine BT ?_; clear hA hH; rintro _ w ⟨bN, rfl, hH⟩ a hA) | (refine LT ?_; clear hA hH; rintro _ w ⟨oN, rfl, hH⟩ a hA) | (refine AT ?_; clear hA; rintro _ w ⟨oN, cN, rfl, hH2⟩ a hA; clear hH; have hH := (hH2 _ (by (repeat constructor))).tail; clear hH2) | (refine S0T ?_; clear hH; rintro _ w hH) )) | ((first | refine CT ?_ | (refine DT ?_ ?_ <;> intro hc <;> try (exfalso; omega))) <;> repeat' refine CT ?_) | (first | (refine DSK ?_; clear hA a; intro a hA) | (first | (refine DLT ?_; clear hA hH; rintro _ w ⟨oN, rfl, hH⟩; refine ⟨STT, ?_⟩; intro a hA) | (refine DAT ?_; clear hA; rintro _ w ⟨oN, cN, rfl, hH2⟩; clear hH; have hH := (hH2 _ (by (repeat constructor))).tail; clear hH2; refine ⟨STT, ?_⟩; intro a hA))) )
  · exact rt1 (.inl rfl) rfl hA rfl ⟨by rw [decide_eq_false]; intro h; subst h; omega, hH.kp⟩
  have hll : l1.length = l2.length := by omega
  refine wp_lpk (S := Nat) (fun i a w => (i ≤ l1.length ∧ l1.take i = l2.take i) ∧ HS w0 noM [] w ∧ Sl 26 [(13, .int .i64 i), (12, .int .i64 l1.length), (0, .slice o1 l1.length c1), (1, .slice o2 l2.length c2)] a) (fun i => l1.length - i)
    (fun a w => l1 = l2 ∧ HS w0 noM [] w ∧ Sl 26 [] a) 0 ⟨⟨Nat.zero_le _, by rw [List.take_zero, List.take_zero]⟩, hH, (hA.sub (by (repeat (first | exact trivial | refine ⟨rfl, ?_⟩))))⟩ ?_ ?_
  · clear hA hH
    rintro i a w ⟨⟨hi, hp⟩, hH, hA⟩
    by_cases hlt : i < l1.length
    rotate_left
    · repeat' (first | (first | (refine GT ?_ ?_ <;> intro hg <;> clear hA a <;> intro a hA <;> (first | exact FA | replace hg := of_decide_eq_true hg | replace hg := of_decide_eq_false hg | skip)) | (refine QT ?_; clear hA a; intro a hA) | (first | (refine BT ?_; clear hA hH; rintro _ w ⟨bN, rfl, hH⟩ a hA) | (refine LT ?_; clear hA hH; rintro _ w ⟨oN, rfl, hH⟩ a hA) | (refine AT ?_; clear hA; rintro _ w ⟨oN, cN, rfl, hH2⟩ a hA; clear hH; have hH := (hH2 _ (by (repeat constructor))).tail; clear hH2) | (refine S0T ?_; clear hH; rintro _ w hH) )) | ((first | refine CT ?_ | (refine DT ?_ ?_ <;> intro hc <;> try (exfalso; omega))) <;> repeat' refine CT ?_) | (first | (refine DSK ?_; clear hA a; intro a hA) | (first | (refine DLT ?_; clear hA hH; rintro _ w ⟨oN, rfl, hH⟩; refine ⟨STT, ?_⟩; intro a hA) | (refine DAT ?_; clear hA; rintro _ w ⟨oN, cN, rfl, hH2⟩; clear hH; have hH := (hH2 _ (by (repeat constructor))).tail; clear hH2; refine ⟨STT, ?_⟩; intro a hA))) )
      exact ⟨by rw [List.take_of_length_le (by omega), List.take_of_length_le (by omega)] at hp; exact hp, hH, (hA.sub (by (repeat (first | exact trivial | refine ⟨rfl, ?_⟩))))⟩
    obtain ⟨x, hx⟩ : ∃ x, l1[i]? = some x := ⟨_, List.getElem?_eq_getElem hlt⟩
    obtain ⟨y, hy⟩ : ∃ y, l2[i]? = some y := ⟨_, List.getElem?_eq_getElem (by omega)⟩
    have hcx : (flat Fw.encI l1)[i * 1]? = some (.int .i64 x) := flat_get (off := 0) Fw.encI_len hx rfl
    have hcy : (flat Fw.encI l2)[i * 1]? = some (.int .i64 y) := flat_get (off := 0) Fw.encI_len hy rfl
    repeat' (first | (first | (refine GT ?_ ?_ <;> intro hg <;> clear hA a <;> intro a hA <;> (first | exact FA | replace hg := of_decide_eq_true hg | replace hg := of_decide_eq_false hg | skip)) | (refine QT ?_; clear hA a; intro a hA) | (first | (refine BT ?_; clear hA hH; rintro _ w ⟨bN, rfl, hH⟩ a hA) | (refine LT ?_; clear hA hH; rintro _ w ⟨oN, rfl, hH⟩ a hA) | (refine AT ?_; clear hA; rintro _ w ⟨oN, cN, rfl, hH2⟩ a hA; clear hH; have hH := (hH2 _ (by (repeat constructor))).tail; clear hH2) | (refine S0T ?_; clear hH; rintro _ w hH) )) | ((first | refine CT ?_ | (refine DT ?_ ?_ <;> intro hc <;> try (exfalso; omega))) <;> repeat' refine CT ?_) | (first | (refine DSK ?_; clear hA a; intro a hA) | (first | (refine DLT ?_; clear hA hH; rintro _ w ⟨oN, rfl, hH⟩; refine ⟨STT, ?_⟩; intro a hA) | (refine DAT ?_; clear hA; rintro _ w ⟨oN, cN, rfl, hH2⟩; clear hH; have hH := (hH2 _ (by (repeat constructor))).tail; clear hH2; refine ⟨STT, ?_⟩; intro a hA))) )
    (refine wp_draw_HS [(0, 1), (1, 1), (2, 1), (3, 1), (4, 1), (5, 1), (6, 1), (7, 1), (8, 1)] mixed (by decide +kernel) hH ?_; replace hH := hH.drew)
    repeat' (first | (first | (refine GT ?_ ?_ <;> intro hg <;> clear hA a <;> intro a hA <;> (first | exact FA | replace hg := of_decide_eq_true hg | replace hg := of_decide_eq_false hg | skip)) | ((first | apply st_ex hA hH rfl rfl (by decide) | apply dr_ex hA rfl rfl rfl (by decide) | apply dr_exp hA rfl rfl rfl (by decide) | apply dr_ex3 hA hH rfl rfl rfl (by decide)); (first | (apply ex_load; rfl; exact cl_rd h1 id hcx) | (apply ex_load; rfl; exact cl_rd h2 id hcy)); clear hA a; intro a hA) | (refine QT ?_; clear hA a; intro a hA) | (first | (refine BT ?_; clear hA hH; rintro _ w ⟨bN, rfl, hH⟩ a hA) | (refine LT ?_; clear hA hH; rintro _ w ⟨oN, rfl, hH⟩ a hA) | (refine AT ?_; clear hA; rintro _ w ⟨oN, cN, rfl, hH2⟩ a hA; clear hH; have hH := (hH2 _ (by (repeat constructor))).tail; clear hH2) | (refine S0T ?_; clear hH; rintro _ w hH) )) | ((first | refine CT ?_ | (refine DT ?_ ?_ <;> intro hc <;> try (exfalso; omega))) <;> repeat' refine CT ?_) | (first | (refine DSK ?_; clear hA a; intro a hA) | (first | (refine DLT ?_; clear hA hH; rintro _ w ⟨oN, rfl, hH⟩; refine ⟨STT, ?_⟩; intro a hA) | (refine DAT ?_; clear hA; rintro _ w ⟨oN, cN, rfl, hH2⟩; clear hH; have hH := (hH2 _ (by (repeat constructor))).tail; clear hH2; refine ⟨STT, ?_⟩; intro a hA))) )
    · exact rt1 (.inl rfl) rfl hA rfl ⟨by rw [decide_eq_false]; intro h; subst h; rw [hx] at hy; exact absurd (Option.some.inj hy) (by assumption), hH.kp⟩
    · exact ⟨i + 1, ⟨⟨hlt, eq_take hx hy hp (by omega)⟩, hH, (hA.sub (by (repeat (first | exact trivial | refine ⟨rfl, ?_⟩))))⟩, by omega⟩
  clear hA hH
  rintro a w ⟨he, hH, hA⟩
  repeat' (first | (first | (refine GT ?_ ?_ <;> intro hg <;> clear hA a <;> intro a hA <;> (first | exact FA | replace hg := of_decide_eq_true hg | replace hg := of_decide_eq_false hg | skip)) | (refine QT ?_; clear hA a; intro a hA) | (first | (refine BT ?_; clear hA hH; rintro _ w ⟨bN, rfl, hH⟩ a hA) | (refine LT ?_; clear hA hH; rintro _ w ⟨oN, rfl, hH⟩ a hA) | (refine AT ?_; clear hA; rintro _ w ⟨oN, cN, rfl, hH2⟩ a hA; clear hH; have hH := (hH2 _ (by (repeat constructor))).tail; clear hH2) | (refine S0T ?_; clear hH; rintro _ w hH) )) | ((first | refine CT ?_ | (refine DT ?_ ?_ <;> intro hc <;> try (exfalso; omega))) <;> repeat' refine CT ?_) | (first | (refine DSK ?_; clear hA a; intro a hA) | (first | (refine DLT ?_; clear hA hH; rintro _ w ⟨oN, rfl, hH⟩; refine ⟨STT, ?_⟩; intro a hA) | (refine DAT ?_; clear hA; rintro _ w ⟨oN, cN, rfl, hH2⟩; clear hH; have hH := (hH2 _ (by (repeat constructor))).tail; clear hH2; refine ⟨STT, ?_⟩; intro a hA))) )
  exact rt1 (.inl rfl) rfl hA rfl ⟨by rw [decide_eq_true he], hH.kp⟩
set_option maxHeartbeats 8000000 in
theorem Right_spec (w0 : World) (f : Gr) (oL : Option Addr) (cL : Nat) (l : List Rg) (hR : RdG w0 f) (hU : Up f) (hS : Small f) (hL : Rd w0 oL (flat encR l)) (hll : l.length ≤ 1000000) :
    Ret Try.prog 10 #[.agg (encG f).toArray, .slice oL l.length cL] w0 (fun v w => ∃ b, v = .bool b ∧ (b = true ↔ RightP f l) ∧ Kp w0 noM w) := by
  have hH : HS w0 noM [] w0 := HS.init w0 noM
  have hspL : Sp oL l.length := hL.sp (sz := 2) (flat_length encR_len _) (by omega)
  (refine enter (N := 57) Try.func10 rfl Try.ntmps10 rfl ?_; intro a hA; dsimp only [sl0, Nat.reduceAdd] at hA)
  repeat' (first | (first | (refine GT ?_ ?_ <;> intro hg <;> clear hA a <;> intro a hA <;> (first | exact FA | replace hg := of_decide_eq_true hg | replace hg := of_decide_eq_false hg | skip)) | (refine QT ?_; clear hA a; intro a hA) | (first | (refine BT ?_; clear hA hH; rintro _ w ⟨bN, rfl, hH⟩ a hA) | (refine LT ?_; clear hA hH; rintro _ w ⟨oN, rfl, hH⟩ a hA) | (refine AT ?_; clear hA; rintro _ w ⟨oN, cN, rfl, hH2⟩ a hA; clear hH; have hH := (hH2 _ (by (repeat constructor))).tail; clear hH2) | (refine S0T ?_; clear hH; rintro _ w hH) )) | ((first | refine CT ?_ | (refine DT ?_ ?_ <;> intro hc <;> try (exfalso; omega))) <;> repeat' refine CT ?_) | (first | (refine DSK ?_; clear hA a; intro a hA) | (first | (refine DLT ?_; clear hA hH; rintro _ w ⟨oN, rfl, hH⟩; refine ⟨STT, ?_⟩; intro a hA) | (refine DAT ?_; clear hA; rintro _ w ⟨oN, cN, rfl, hH2⟩; clear hH; have hH := (hH2 _ (by (repeat constructor))).tail; clear hH2; refine ⟨STT, ?_⟩; intro a hA))) )
  obtain ⟨bF, hbF⟩ : ∃ x, x = bN := ⟨_, rfl⟩
  rw [← hbF] at hA hH
  clear hbF bN
  (refine st_op hA rfl rfl (by decide) (op_makeMapI hH) ?_; clear hA hH; rintro _ w ⟨mR, rfl, hH⟩ a hA)
  repeat' (first | (first | (refine GT ?_ ?_ <;> intro hg <;> clear hA a <;> intro a hA <;> (first | exact FA | replace hg := of_decide_eq_true hg | replace hg := of_decide_eq_false hg | skip)) | (refine QT ?_; clear hA a; intro a hA) | (first | (refine BT ?_; clear hA hH; rintro _ w ⟨bN, rfl, hH⟩ a hA) | (refine LT ?_; clear hA hH; rintro _ w ⟨oN, rfl, hH⟩ a hA) | (refine AT ?_; clear hA; rintro _ w ⟨oN, cN, rfl, hH2⟩ a hA; clear hH; have hH := (hH2 _ (by (repeat constructor))).tail; clear hH2) | (refine S0T ?_; clear hH; rintro _ w hH) )) | ((first | refine CT ?_ | (refine DT ?_ ?_ <;> intro hc <;> try (exfalso; omega))) <;> repeat' refine CT ?_) | (first | (refine DSK ?_; clear hA a; intro a hA) | (first | (refine DLT ?_; clear hA hH; rintro _ w ⟨oN, rfl, hH⟩; refine ⟨STT, ?_⟩; intro a hA) | (refine DAT ?_; clear hA; rintro _ w ⟨oN, cN, rfl, hH2⟩; clear hH; have hH := (hH2 _ (by (repeat constructor))).tail; clear hH2; refine ⟨STT, ?_⟩; intro a hA))) )
  obtain ⟨bR, hbR⟩ : ∃ x, x = bN := ⟨_, rfl⟩
  rw [← hbR] at hA hH
  clear hbR bN
  refine wp_lpk (S := Nat) (fun i a w => ∃ o c, (i ≤ l.length ∧ ∀ r ∈ l.take i, 0 ≤ r.r) ∧ HS w0 noM [own 3 1 o ((l.take i).map Rg.v).length c (flat Fw.encI ((l.take i).map Rg.v)), cb bR 67 [.map (some mR)], mpI mR (mkM (l.take i)), cb bF 30 (encG f)] w ∧
      Sl 57 [(12, .int .i64 i), (11, .int .i64 l.length), (10, .slice oL l.length cL), (6, .pointer (some (bat bR 0))), (5, .slice o ((l.take i).map Rg.v).length c), (2, .pointer (some (bat bF 0))), (1, .slice oL l.length cL)] a) (fun i => l.length - i)
    (fun a w => ∃ o c, (∀ r ∈ l, 0 ≤ r.r) ∧ HS w0 noM [own 3 1 o (l.map Rg.v).length c (flat Fw.encI (l.map Rg.v)), cb bR 67 [.map (some mR)], mpI mR (mkM l), cb bF 30 (encG f)] w ∧
      Sl 57 [(6, .pointer (some (bat bR 0))), (5, .slice o (l.map Rg.v).length c), (2, .pointer (some (bat bF 0))), (1, .slice oL l.length cL)] a) 0 ⟨none, 0, ⟨Nat.zero_le _, (by rw [List.take_zero]; exact fun r hr => absurd hr List.not_mem_nil)⟩, (by rw [mkM_nil, List.take_zero, List.map_nil, flatI_nil]; exact (hH.nil_own 3 1)), (by rw [List.take_zero, List.map_nil]; exact (hA.sub (by (repeat (first | exact trivial | refine ⟨rfl, ?_⟩)))))⟩ ?_ ?_
  · clear hA hH
    rintro i a w ⟨o, c, ⟨hi, hp⟩, hH, hA⟩
    by_cases hlt : i < l.length
    rotate_left
    · obtain rfl : i = l.length := by omega
      rw [List.take_length] at hA hH hp
      repeat' (first | (first | (refine GT ?_ ?_ <;> intro hg <;> clear hA a <;> intro a hA <;> (first | exact FA | replace hg := of_decide_eq_true hg | replace hg := of_decide_eq_false hg | skip)) | (refine QT ?_; clear hA a; intro a hA) | (first | (refine BT ?_; clear hA hH; rintro _ w ⟨bN, rfl, hH⟩ a hA) | (refine LT ?_; clear hA hH; rintro _ w ⟨oN, rfl, hH⟩ a hA) | (refine AT ?_; clear hA; rintro _ w ⟨oN, cN, rfl, hH2⟩ a hA; clear hH; have hH := (hH2 _ (by (repeat constructor))).tail; clear hH2) | (refine S0T ?_; clear hH; rintro _ w hH) )) | ((first | refine CT ?_ | (refine DT ?_ ?_ <;> intro hc <;> try (exfalso; omega))) <;> repeat' refine CT ?_) | (first | (refine DSK ?_; clear hA a; intro a hA) | (first | (refine DLT ?_; clear hA hH; rintro _ w ⟨oN, rfl, hH⟩; refine ⟨STT, ?_⟩; intro a hA) | (refine DAT ?_; clear hA; rintro _ w ⟨oN, cN, rfl, hH2⟩; clear hH; have hH := (hH2 _ (by (repeat constructor))).tail; clear hH2; refine ⟨STT, ?_⟩; intro a hA))) )
      exact ⟨o, c, hp, hH, (hA.sub (by (repeat (first | exact trivial | refine ⟨rfl, ?_⟩))))⟩
    obtain ⟨r, hr⟩ : ∃ x, l[i]? = some x := ⟨_, List.getElem?_eq_getElem hlt⟩
    have hvr := flat_all encR_len hr
    have hml : ((l.take i).map Rg.v).length ≤ 1000000 := by rw [List.length_map, List.length_take]; omega
    repeat' (first | (first | (refine GT ?_ ?_ <;> intro hg <;> clear hA a <;> intro a hA <;> (first | exact FA | replace hg := of_decide_eq_true hg | replace hg := of_decide_eq_false hg | skip)) | ((first | apply st_ex hA hH rfl rfl (by decide) | apply dr_ex hA rfl rfl rfl (by decide) | apply dr_exp hA rfl rfl rfl (by decide) | apply dr_ex3 hA hH rfl rfl rfl (by decide)); (first | (apply ex_load_st (vs := encR r); rfl; rfl; exact cls_rd hL id hvr) | (apply ex_indexAddr_nat; rfl; rfl; omega; exact hspL)); clear hA a; intro a hA) | (refine QT ?_; clear hA a; intro a hA) | (first | (refine BT ?_; clear hA hH; rintro _ w ⟨bN, rfl, hH⟩ a hA) | (refine LT ?_; clear hA hH; rintro _ w ⟨oN, rfl, hH⟩ a hA) | (refine AT ?_; clear hA; rintro _ w ⟨oN, cN, rfl, hH2⟩ a hA; clear hH; have hH := (hH2 _ (by (repeat constructor))).tail; clear hH2) | (refine S0T ?_; clear hH; rintro _ w hH) | (apply st_op0 hA rfl rfl; apply op_store_agg (vs := encR r); rfl; rfl; exact hH; (repeat constructor); (repeat rfl); clear hH; rintro _ w hH) | (apply st_op0 hA rfl rfl; apply op_mapUpdateI; rfl; rfl; rfl; exact hH; (repeat constructor); clear hH; rintro _ w hH))) | ((first | refine CT ?_ | (refine DT ?_ ?_ <;> intro hc <;> try (exfalso; omega))) <;> repeat' refine CT ?_) | (first | (refine DSK ?_; clear hA a; intro a hA) | (first | (refine DLT ?_; clear hA hH; rintro _ w ⟨oN, rfl, hH⟩; refine ⟨STT, ?_⟩; intro a hA) | (refine DAT ?_; clear hA; rintro _ w ⟨oN, cN, rfl, hH2⟩; clear hH; have hH := (hH2 _ (by (repeat constructor))).tail; clear hH2; refine ⟨STT, ?_⟩; intro a hA))) )
    · have hneg : r.r < 0 := by assumption
      exact rt1 (.inl rfl) rfl hA rfl ⟨false, rfl, no_iff (fun h => (by have := h.1 r (List.mem_of_getElem? hr); omega)), hH.kp⟩
    · rw [flatI_snoc, ← lenS ((l.take i).map Rg.v) r.v, ← map_v_next hr, ← mkM_next hr] at hH
      rw [← lenS ((l.take i).map Rg.v) r.v, ← map_v_next hr] at hA
      exact ⟨i + 1, ⟨oN, cN, ⟨hlt, ge_next hr hp (by omega)⟩, hH.tail, (hA.sub (by (repeat (first | exact trivial | refine ⟨rfl, ?_⟩))))⟩, by omega⟩
  clear hA hH
  rintro a w ⟨o, c, hge, hH, hA⟩
  obtain ⟨vl, hvl⟩ : ∃ x, x = l.map Rg.v := ⟨_, rfl⟩
  rw [← hvl] at hA hH
  have hvll : vl.length = l.length := by rw [hvl, List.length_map]
  repeat' (first | (first | (refine GT ?_ ?_ <;> intro hg <;> clear hA a <;> intro a hA <;> (first | exact FA | replace hg := of_decide_eq_true hg | replace hg := of_decide_eq_false hg | skip)) | (refine QT ?_; clear hA a; intro a hA) | (first | (refine BT ?_; clear hA hH; rintro _ w ⟨bN, rfl, hH⟩ a hA) | (refine LT ?_; clear hA hH; rintro _ w ⟨oN, rfl, hH⟩ a hA) | (refine AT ?_; clear hA; rintro _ w ⟨oN, cN, rfl, hH2⟩ a hA; clear hH; have hH := (hH2 _ (by (repeat constructor))).tail; clear hH2) | (refine S0T ?_; clear hH; rintro _ w hH) )) | ((first | refine CT ?_ | (refine DT ?_ ?_ <;> intro hc <;> try (exfalso; omega))) <;> repeat' refine CT ?_) | (first | (refine DSK ?_; clear hA a; intro a hA) | (first | (refine DLT ?_; clear hA hH; rintro _ w ⟨oN, rfl, hH⟩; refine ⟨STT, ?_⟩; intro a hA) | (refine DAT ?_; clear hA; rintro _ w ⟨oN, cN, rfl, hH2⟩; clear hH; have hH := (hH2 _ (by (repeat constructor))).tail; clear hH2; refine ⟨STT, ?_⟩; intro a hA))) )
  (refine st_op hA rfl rfl (by decide) (op_call rfl rfl rfl (sort_spec w0 _ noM _ o c vl hH (.head _) (by omega))) ?_; clear hA; rintro _ w ⟨rfl, hup⟩ a hA; clear hH; have hH := hup _ .here; clear hup)
  rw [← srt_len vl] at hA hH
  repeat' (first | (first | (refine GT ?_ ?_ <;> intro hg <;> clear hA a <;> intro a hA <;> (first | exact FA | replace hg := of_decide_eq_true hg | replace hg := of_decide_eq_false hg | skip)) | (refine QT ?_; clear hA a; intro a hA) | (first | (refine BT ?_; clear hA hH; rintro _ w ⟨bN, rfl, hH⟩ a hA) | (refine LT ?_; clear hA hH; rintro _ w ⟨oN, rfl, hH⟩ a hA) | (refine AT ?_; clear hA; rintro _ w ⟨oN, cN, rfl, hH2⟩ a hA; clear hH; have hH := (hH2 _ (by (repeat constructor))).tail; clear hH2) | (refine S0T ?_; clear hH; rintro _ w hH) )) | ((first | refine CT ?_ | (refine DT ?_ ?_ <;> intro hc <;> try (exfalso; omega))) <;> repeat' refine CT ?_) | (first | (refine DSK ?_; clear hA a; intro a hA) | (first | (refine DLT ?_; clear hA hH; rintro _ w ⟨oN, rfl, hH⟩; refine ⟨STT, ?_⟩; intro a hA) | (refine DAT ?_; clear hA; rintro _ w ⟨oN, cN, rfl, hH2⟩; clear hH; have hH := (hH2 _ (by (repeat constructor))).tail; clear hH2; refine ⟨STT, ?_⟩; intro a hA))) )
  (refine st_op hA rfl rfl (by decide) (op_call rfl rfl rfl (variables_spec w0 _ _ f hH hR hS.vs)) ?_; clear hA hH; rintro _ w ⟨oV, cV, rfl, hH⟩ a hA)
  (refine st_op hA rfl rfl (by decide) (op_call rfl rfl rfl (equalI_spec _ o oV c cV (srt vl) (srt (varsL f.bs.l)) (hH.own_rd (T := 3) (n := (srt vl).length) (cap := c) (sz := 1) (by exact MEMT)) (hH.own_rd (T := 3) (n := (srt (varsL f.bs.l)).length) (cap := cV) (sz := 1) (by exact MEMT)) (by rw [srt_len]; omega) (by rw [srt_len]; have := hS.vs; omega))) ?_; clear hA; rintro _ w ⟨rfl, hk⟩ a hA; replace hH := hH.keep hk; clear hk)
  repeat' (first | (first | (refine GT ?_ ?_ <;> intro hg <;> clear hA a <;> intro a hA <;> (first | exact FA | replace hg := of_decide_eq_true hg | replace hg := of_decide_eq_false hg | skip)) | ((first | apply st_ex hA hH rfl rfl (by decide) | apply dr_ex hA rfl rfl rfl (by decide) | apply dr_exp hA rfl rfl rfl (by decide) | apply dr_ex3 hA hH rfl rfl rfl (by decide)); (first | (apply ex_lenI; rfl; exact MEMT)); clear hA a; intro a hA) | (refine QT ?_; clear hA a; intro a hA) | (first | (refine BT ?_; clear hA hH; rintro _ w ⟨bN, rfl, hH⟩ a hA) | (refine LT ?_; clear hA hH; rintro _ w ⟨oN, rfl, hH⟩ a hA) | (refine AT ?_; clear hA; rintro _ w ⟨oN, cN, rfl, hH2⟩ a hA; clear hH; have hH := (hH2 _ (by (repeat constructor))).tail; clear hH2) | (refine S0T ?_; clear hH; rintro _ w hH) )) | ((first | refine CT ?_ | (refine DT ?_ ?_ <;> intro hc <;> try (exfalso; omega))) <;> repeat' refine CT ?_) | (first | (refine DSK ?_; clear hA a; intro a hA) | (first | (refine DLT ?_; clear hA hH; rintro _ w ⟨oN, rfl, hH⟩; refine ⟨STT, ?_⟩; intro a hA) | (refine DAT ?_; clear hA; rintro _ w ⟨oN, cN, rfl, hH2⟩; clear hH; have hH := (hH2 _ (by (repeat constructor))).tail; clear hH2; refine ⟨STT, ?_⟩; intro a hA))) )
  · have hne : ¬ srt vl = srt (varsL f.bs.l) := nd_t (by assumption)
    exact rt1 (.inl rfl) rfl hA rfl ⟨false, rfl, no_iff (fun h => hne (hvl ▸ h.2.1)), hH.kp⟩
  · have hne : ((mkM l).length : Int) ≠ (l.length : Int) := by assumption
    exact rt1 (.inl rfl) rfl hA rfl ⟨false, rfl, no_iff (fun h => hne (by rw [h.2.2.1])), hH.kp⟩
  · have hne : (lkI (mkM l) 0).getD 0 ≠ 0 := by assumption
    exact rt1 (.inl rfl) rfl hA rfl ⟨false, rfl, no_iff (fun h => hne ((rgM_eq _ _).trans h.2.2.2.1)), hH.kp⟩
  · have hne : (lkI (mkM l) 1).getD 0 ≠ 1 := by assumption
    exact rt1 (.inl rfl) rfl hA rfl ⟨false, rfl, no_iff (fun h => hne ((rgM_eq _ _).trans h.2.2.2.2.1)), hH.kp⟩
  have h1 : srt vl = srt (varsL f.bs.l) := nd_f (by assumption)
  have h2 : (mkM l).length = l.length := by
    have : ¬ ((mkM l).length : Int) ≠ (l.length : Int) := by assumption
    omega
  have h3 : rgM (mkM l) 0 = 0 := by
    have : ¬ (lkI (mkM l) 0).getD 0 ≠ 0 := by assumption
    rw [← rgM_eq]
    omega
  have h4 : rgM (mkM l) 1 = 1 := by
    have : ¬ (lkI (mkM l) 1).getD 0 ≠ 1 := by assumption
    rw [← rgM_eq]
    omega
  (refine st_op hA rfl rfl (by decide) (op_call rfl rfl rfl (each_spec 23 #[.pointer (some (bat bR 0))] _ _ w0 _ _ f () (atR_spec w0 bR mR (mkM l)) (HS.shut (L := [_, _]) ((hH.up 2 rfl).up 3 rfl |>.perm (by (repeat (first | exact List.Perm.refl _ | exact List.Perm.nil | refine perm_pick 0 rfl ?_ | refine perm_pick 1 rfl ?_ | refine perm_pick 2 rfl ?_ | refine perm_pick 3 rfl ?_ | refine perm_pick 4 rfl ?_ | refine perm_pick 5 rfl ?_ | refine perm_pick 6 rfl ?_ | refine perm_pick 7 rfl ?_ | refine perm_pick 8 rfl ?_ | refine perm_pick 9 rfl ?_ | refine perm_pick 10 rfl ?_ | refine perm_pick 11 rfl ?_))))) hR hU hS.bs hS.each hS.sets)) ?_; clear hA hH; rintro _ w ⟨ss, hsl, hF, h⟩ a hA)
  have h5 : srt (l.map Rg.v) = srt (varsL f.bs.l) := hvl ▸ h1
  rcases h with ⟨pl, s1, hpl, hgo, rfl, hH⟩ | ⟨sl, p, s1, hsl2, hp, hno, rfl, hH⟩
  · repeat' (first | (first | (refine GT ?_ ?_ <;> intro hg <;> clear hA a <;> intro a hA <;> (first | exact FA | replace hg := of_decide_eq_true hg | replace hg := of_decide_eq_false hg | skip)) | (refine QT ?_; clear hA a; intro a hA) | (first | (refine BT ?_; clear hA hH; rintro _ w ⟨bN, rfl, hH⟩ a hA) | (refine LT ?_; clear hA hH; rintro _ w ⟨oN, rfl, hH⟩ a hA) | (refine AT ?_; clear hA; rintro _ w ⟨oN, cN, rfl, hH2⟩ a hA; clear hH; have hH := (hH2 _ (by (repeat constructor))).tail; clear hH2) | (refine S0T ?_; clear hH; rintro _ w hH) )) | ((first | refine CT ?_ | (refine DT ?_ ?_ <;> intro hc <;> try (exfalso; omega))) <;> repeat' refine CT ?_) | (first | (refine DSK ?_; clear hA a; intro a hA) | (first | (refine DLT ?_; clear hA hH; rintro _ w ⟨oN, rfl, hH⟩; refine ⟨STT, ?_⟩; intro a hA) | (refine DAT ?_; clear hA; rintro _ w ⟨oN, cN, rfl, hH2⟩; clear hH; have hH := (hH2 _ (by (repeat constructor))).tail; clear hH2; refine ⟨STT, ?_⟩; intro a hA))) )
    exact rt1 (.inl rfl) rfl hA rfl ⟨true, rfl, yes_iff ⟨hge, h5, h2, h3, h4, allOk_yes hU hsl hF hpl hgo⟩, hH.kp⟩
  · repeat' (first | (first | (refine GT ?_ ?_ <;> intro hg <;> clear hA a <;> intro a hA <;> (first | exact FA | replace hg := of_decide_eq_true hg | replace hg := of_decide_eq_false hg | skip)) | (refine QT ?_; clear hA a; intro a hA) | (first | (refine BT ?_; clear hA hH; rintro _ w ⟨bN, rfl, hH⟩ a hA) | (refine LT ?_; clear hA hH; rintro _ w ⟨oN, rfl, hH⟩ a hA) | (refine AT ?_; clear hA; rintro _ w ⟨oN, cN, rfl, hH2⟩ a hA; clear hH; have hH := (hH2 _ (by (repeat constructor))).tail; clear hH2) | (refine S0T ?_; clear hH; rintro _ w hH) )) | ((first | refine CT ?_ | (refine DT ?_ ?_ <;> intro hc <;> try (exfalso; omega))) <;> repeat' refine CT ?_) | (first | (refine DSK ?_; clear hA a; intro a hA) | (first | (refine DLT ?_; clear hA hH; rintro _ w ⟨oN, rfl, hH⟩; refine ⟨STT, ?_⟩; intro a hA) | (refine DAT ?_; clear hA; rintro _ w ⟨oN, cN, rfl, hH2⟩; clear hH; have hH := (hH2 _ (by (repeat constructor))).tail; clear hH2; refine ⟨STT, ?_⟩; intro a hA))) )
    exact rt1 (.inl rfl) rfl hA rfl ⟨false, rfl, no_iff (fun h => allOk_no hsl hF hsl2 hp hno h.2.2.2.2.2), hH.kp⟩
end Go.Proofs.Ytjfanjcoppeeaaa
namespace Go.Proofs.Ytjfanjcoppeeaaa
open Go Go.Fw
set_option linter.unusedVariables false
def regsOf (vs : List Int) (m : List (Int × Int)) : List Rg := vs.map fun x => ⟨x, rgM m x⟩
theorem regsOf_next {vs : List Int} {i : Nat} {x : Int} {m : List (Int × Int)} (h : vs[i]? = some x) : regsOf (vs.take (i + 1)) m = regsOf (vs.take i) m ++ [⟨x, rgM m x⟩] := by
  unfold regsOf
  rw [take_snoc h, List.map_append]
  rfl
theorem regsOf_len (vs : List Int) (m : List (Int × Int)) : (regsOf vs m).length = vs.length := List.length_map _
theorem regsOf_0 (vs : List Int) (m : List (Int × Int)) : regsOf (vs.take 0) m = [] := by rw [List.take_zero]; rfl
theorem flatR_snoc (l : List Rg) (x : Int) (r : Int) : flat encR l ++ [.int .i64 x, .int .i64 r] = flat encR (l ++ [⟨x, r⟩]) := by rw [flat_snoc]; rfl
theorem regsOf_next_len {vs : List Int} {i : Nat} {x : Int} {m : List (Int × Int)} (h : vs[i]? = some x) : (regsOf (vs.take i) m).length + 1 = (regsOf (vs.take (i + 1)) m).length := by rw [regsOf_next h, List.length_append]; rfl
theorem flatR_nil : flat encR [] = [] := rfl
def m01 : List (Int × Int) := setI (setI [] 0 0) 1 1
theorem atC_some (s : Nat × List (Int × Int)) (p : Pl) : atC s p ≠ none := by unfold atC; exact fun h => by cases h
set_option maxRecDepth 10000 attribute [local irreducible] Code.wp wpList Calls Ex Op1 sat bat blk cb own Go.Fw.mp Go.Fw.mpO Go.Fw.mpI Go.Fw.mpE Go.Fw.itr HS Rd Ret wkD Hp Cl Cls Exit.then Exit.inBlock Exit.noGoto bodyPost Go.Fw.flat wk2 Go.Fw.all Go.Fw.owns wpOp
attribute [local irreducible] sk mpK srt sko mvO insP blkP skP goes slots slotB varsL mkM AllOk rgM atC regsOf

set_option maxHeartbeats 8000000 in
theorem Colour_spec (w0 : World) (f : Gr) (k : Int) (hR : RdG w0 f) (hU : Up f) (hS : Small f) :
    Ret Try.prog 12 #[.agg (encG f).toArray, .int .i64 k] w0 (fun v w => ∃ ss pl s1, ss.length = f.bs.l.length ∧ (∀ n, FixAt f ss n) ∧ FA2 (IsAt f ss) (slots f f.bs.l.length) pl ∧ goes atC (2, m01) pl = some s1 ∧
      ((k < (s1.1 : Nat) ∧ v = .tuple #[.slice none 0 0, .int .i64 3] ∧ Kp w0 noM w) ∨
       ((s1.1 : Nat) ≤ k ∧ ∃ o c, v = .tuple #[.slice o (regsOf (srt (varsL f.bs.l)) s1.2).length c, .int .i64 0] ∧ HS w0 noM [own 40 2 o (regsOf (srt (varsL f.bs.l)) s1.2).length c (flat encR (regsOf (srt (varsL f.bs.l)) s1.2))] w))) := by
  have hH : HS w0 noM [] w0 := HS.init w0 noM
  (refine enter (N := 36) Try.func12 rfl Try.ntmps12 rfl ?_; intro a hA; dsimp only [sl0, Nat.reduceAdd] at hA)
  repeat' (first | (first | (refine GT ?_ ?_ <;> intro hg <;> clear hA a <;> intro a hA <;> (first | exact FA | replace hg := of_decide_eq_true hg | replace hg := of_decide_eq_false hg | skip)) | (refine QT ?_; clear hA a; intro a hA) | (first | (refine BT ?_; clear hA hH; rintro _ w ⟨bN, rfl, hH⟩ a hA) | (refine LT ?_; clear hA hH; rintro _ w ⟨oN, rfl, hH⟩ a hA) | (refine AT ?_; clear hA; rintro _ w ⟨oN, cN, rfl, hH2⟩ a hA; clear hH; have hH := (hH2 _ (by (repeat constructor))).tail; clear hH2) | (refine S0T ?_; clear hH; rintro _ w hH) )) | ((first | refine CT ?_ | (refine DT ?_ ?_ <;> intro hc <;> try (exfalso; omega))) <;> repeat' refine CT ?_) | (first | (refine DSK ?_; clear hA a; intro a hA) | (first | (refine DLT ?_; clear hA hH; rintro _ w ⟨oN, rfl, hH⟩; refine ⟨STT, ?_⟩; intro a hA) | (refine DAT ?_; clear hA; rintro _ w ⟨oN, cN, rfl, hH2⟩; clear hH; have hH := (hH2 _ (by (repeat constructor))).tail; clear hH2; refine ⟨STT, ?_⟩; intro a hA))) )
  obtain ⟨bP, hbP⟩ : ∃ x, x = bN := ⟨_, rfl⟩
  rw [← hbP] at hA hH
  clear hbP bN
  (refine st_op hA rfl rfl (by decide) (op_makeMapI hH) ?_; clear hA hH; rintro _ w ⟨mR, rfl, hH⟩ a hA)
  repeat' (first | (first | (refine GT ?_ ?_ <;> intro hg <;> clear hA a <;> intro a hA <;> (first | exact FA | replace hg := of_decide_eq_true hg | replace hg := of_decide_eq_false hg | skip)) | (refine QT ?_; clear hA a; intro a hA) | (first | (refine BT ?_; clear hA hH; rintro _ w ⟨bN, rfl, hH⟩ a hA) | (refine LT ?_; clear hA hH; rintro _ w ⟨oN, rfl, hH⟩ a hA) | (refine AT ?_; clear hA; rintro _ w ⟨oN, cN, rfl, hH2⟩ a hA; clear hH; have hH := (hH2 _ (by (repeat constructor))).tail; clear hH2) | (refine S0T ?_; clear hH; rintro _ w hH) | (apply st_op0 hA rfl rfl; apply op_insertI; rfl; rfl; rfl; exact hH; (repeat constructor); clear hH; rintro _ w hH))) | ((first | refine CT ?_ | (refine DT ?_ ?_ <;> intro hc <;> try (exfalso; omega))) <;> repeat' refine CT ?_) | (first | (refine DSK ?_; clear hA a; intro a hA) | (first | (refine DLT ?_; clear hA hH; rintro _ w ⟨oN, rfl, hH⟩; refine ⟨STT, ?_⟩; intro a hA) | (refine DAT ?_; clear hA; rintro _ w ⟨oN, cN, rfl, hH2⟩; clear hH; have hH := (hH2 _ (by (repeat constructor))).tail; clear hH2; refine ⟨STT, ?_⟩; intro a hA))) )
  obtain ⟨bR, hbR⟩ : ∃ x, x = bN := ⟨_, rfl⟩
  rw [← hbR] at hA hH
  clear hbR bN
  (refine st_op hA rfl rfl (by decide) (op_call rfl rfl rfl (each_spec 30 #[.pointer (some (bat bP 0)), .pointer (some (bat bR 0))] _ _ w0 _ _ f (2, m01) (atC_spec w0 bP bR mR) (HS.facI_shut (by decide) (HS.shut (L := [_, _, _]) (hH.up 2 rfl))) hR hU hS.bs hS.each hS.sets)) ?_; clear hA hH; rintro _ w ⟨ss, hsl, hF, h⟩ a hA)
  rcases h with ⟨pl, s1, hpl, hgo, rfl, hH⟩ | ⟨sl, p, s1, hsl2, hp, hno, rfl, hH⟩
  rotate_left
  · exact absurd hno (atC_some _ _)
  obtain ⟨hpr, hH⟩ := hH.facI_open
  replace hH := hH.open_
  dsimp only [List.cons_append, List.nil_append] at hH hpr
  repeat' (first | (first | (refine GT ?_ ?_ <;> intro hg <;> clear hA a <;> intro a hA <;> (first | exact FA | replace hg := of_decide_eq_true hg | replace hg := of_decide_eq_false hg | skip)) | (refine QT ?_; clear hA a; intro a hA) | (first | (refine BT ?_; clear hA hH; rintro _ w ⟨bN, rfl, hH⟩ a hA) | (refine LT ?_; clear hA hH; rintro _ w ⟨oN, rfl, hH⟩ a hA) | (refine AT ?_; clear hA; rintro _ w ⟨oN, cN, rfl, hH2⟩ a hA; clear hH; have hH := (hH2 _ (by (repeat constructor))).tail; clear hH2) | (refine S0T ?_; clear hH; rintro _ w hH) )) | ((first | refine CT ?_ | (refine DT ?_ ?_ <;> intro hc <;> try (exfalso; omega))) <;> repeat' refine CT ?_) | (first | (refine DSK ?_; clear hA a; intro a hA) | (first | (refine DLT ?_; clear hA hH; rintro _ w ⟨oN, rfl, hH⟩; refine ⟨STT, ?_⟩; intro a hA) | (refine DAT ?_; clear hA; rintro _ w ⟨oN, cN, rfl, hH2⟩; clear hH; have hH := (hH2 _ (by (repeat constructor))).tail; clear hH2; refine ⟨STT, ?_⟩; intro a hA))) )
  · exact rt2 (.inl rfl) rfl hA rfl rfl ⟨ss, pl, s1, hsl, hF, hpl, hgo, .inl ⟨by omega, rfl, hH.kp⟩⟩
  have hge : (s1.1 : Int) ≤ k := by omega
  (refine st_op hA rfl rfl (by decide) (op_call rfl rfl rfl (variables_spec w0 _ _ f hH hR hS.vs)) ?_; clear hA hH; rintro _ w ⟨oV, cV, rfl, hH⟩ a hA)
  obtain ⟨vs, hvs⟩ : ∃ x, x = srt (varsL f.bs.l) := ⟨_, rfl⟩
  have hvl : vs.length ≤ 1000000 := by rw [hvs, srt_len]; exact hS.vs
  rw [← hvs] at hA hH ⊢
  have hspV := hH.own_sp (T := 3) (o := oV) (.head _)
  repeat' (first | (first | (refine GT ?_ ?_ <;> intro hg <;> clear hA a <;> intro a hA <;> (first | exact FA | replace hg := of_decide_eq_true hg | replace hg := of_decide_eq_false hg | skip)) | (refine QT ?_; clear hA a; intro a hA) | (first | (refine BT ?_; clear hA hH; rintro _ w ⟨bN, rfl, hH⟩ a hA) | (refine LT ?_; clear hA hH; rintro _ w ⟨oN, rfl, hH⟩ a hA) | (refine AT ?_; clear hA; rintro _ w ⟨oN, cN, rfl, hH2⟩ a hA; clear hH; have hH := (hH2 _ (by (repeat constructor))).tail; clear hH2) | (refine S0T ?_; clear hH; rintro _ w hH) )) | ((first | refine CT ?_ | (refine DT ?_ ?_ <;> intro hc <;> try (exfalso; omega))) <;> repeat' refine CT ?_) | (first | (refine DSK ?_; clear hA a; intro a hA) | (first | (refine DLT ?_; clear hA hH; rintro _ w ⟨oN, rfl, hH⟩; refine ⟨STT, ?_⟩; intro a hA) | (refine DAT ?_; clear hA; rintro _ w ⟨oN, cN, rfl, hH2⟩; clear hH; have hH := (hH2 _ (by (repeat constructor))).tail; clear hH2; refine ⟨STT, ?_⟩; intro a hA))) )
  refine wp_lpk (S := Nat) (fun i a w => ∃ o c, (i ≤ vs.length) ∧ HS w0 noM [own 40 2 o (regsOf (vs.take i) s1.2).length c (flat encR (regsOf (vs.take i) s1.2)), own 3 1 oV vs.length cV (flat Fw.encI vs), cb bR 67 [.map (some mR)], mpI mR s1.2] w ∧
      Sl 36 [(22, .int .i64 i), (21, .int .i64 vs.length), (20, .slice oV vs.length cV), (7, .pointer (some (bat bR 0))), (8, .slice o (regsOf (vs.take i) s1.2).length c)] a) (fun i => vs.length - i)
    (fun a w => ∃ o c, HS w0 noM [own 40 2 o (regsOf vs s1.2).length c (flat encR (regsOf vs s1.2))] w ∧ Sl 36 [(8, .slice o (regsOf vs s1.2).length c)] a) 0 ⟨none, 0, Nat.zero_le _, (by rw [regsOf_0, flatR_nil]; exact HS.left (H1 := [_, _, _, _]) ((hH.nil_own 40 2).perm (by (repeat (first | exact List.Perm.refl _ | exact List.Perm.nil | refine perm_pick 0 rfl ?_ | refine perm_pick 1 rfl ?_ | refine perm_pick 2 rfl ?_ | refine perm_pick 3 rfl ?_ | refine perm_pick 4 rfl ?_ | refine perm_pick 5 rfl ?_ | refine perm_pick 6 rfl ?_ | refine perm_pick 7 rfl ?_ | refine perm_pick 8 rfl ?_ | refine perm_pick 9 rfl ?_ | refine perm_pick 10 rfl ?_ | refine perm_pick 11 rfl ?_))))), (by rw [regsOf_0]; exact (hA.sub (by (repeat (first | exact trivial | refine ⟨rfl, ?_⟩)))))⟩ ?_ ?_
  · clear hA hH
    rintro i a w ⟨o, c, hi, hH, hA⟩
    by_cases hlt : i < vs.length
    rotate_left
    · obtain rfl : i = vs.length := by omega
      rw [List.take_length] at hA hH
      repeat' (first | (first | (refine GT ?_ ?_ <;> intro hg <;> clear hA a <;> intro a hA <;> (first | exact FA | replace hg := of_decide_eq_true hg | replace hg := of_decide_eq_false hg | skip)) | (refine QT ?_; clear hA a; intro a hA) | (first | (refine BT ?_; clear hA hH; rintro _ w ⟨bN, rfl, hH⟩ a hA) | (refine LT ?_; clear hA hH; rintro _ w ⟨oN, rfl, hH⟩ a hA) | (refine AT ?_; clear hA; rintro _ w ⟨oN, cN, rfl, hH2⟩ a hA; clear hH; have hH := (hH2 _ (by (repeat constructor))).tail; clear hH2) | (refine S0T ?_; clear hH; rintro _ w hH) )) | ((first | refine CT ?_ | (refine DT ?_ ?_ <;> intro hc <;> try (exfalso; omega))) <;> repeat' refine CT ?_) | (first | (refine DSK ?_; clear hA a; intro a hA) | (first | (refine DLT ?_; clear hA hH; rintro _ w ⟨oN, rfl, hH⟩; refine ⟨STT, ?_⟩; intro a hA) | (refine DAT ?_; clear hA; rintro _ w ⟨oN, cN, rfl, hH2⟩; clear hH; have hH := (hH2 _ (by (repeat constructor))).tail; clear hH2; refine ⟨STT, ?_⟩; intro a hA))) )
      exact ⟨o, c, hH.head, (hA.sub (by (repeat (first | exact trivial | refine ⟨rfl, ?_⟩))))⟩
    obtain ⟨x, hx⟩ : ∃ x, vs[i]? = some x := ⟨_, List.getElem?_eq_getElem hlt⟩
    have hv : (flat Fw.encI vs)[i * 1]? = some (.int .i64 x) := flat_get (off := 0) Fw.encI_len hx rfl
    have hml : (regsOf (vs.take i) s1.2).length ≤ 1000000 := by rw [regsOf_len, List.length_take]; omega
    repeat' (first | (first | (refine GT ?_ ?_ <;> intro hg <;> clear hA a <;> intro a hA <;> (first | exact FA | replace hg := of_decide_eq_true hg | replace hg := of_decide_eq_false hg | skip)) | ((first | apply st_ex hA hH rfl rfl (by decide) | apply dr_ex hA rfl rfl rfl (by decide) | apply dr_exp hA rfl rfl rfl (by decide) | apply dr_ex3 hA hH rfl rfl rfl (by decide)); (first | (apply ex_indexAddr_nat; rfl; rfl; omega; exact hspV) | (apply ex_load; rfl; apply cl_own (T := 3); exact MEMT; exact hv)); clear hA a; intro a hA) | (refine QT ?_; clear hA a; intro a hA) | (first | (refine BT ?_; clear hA hH; rintro _ w ⟨bN, rfl, hH⟩ a hA) | (refine LT ?_; clear hA hH; rintro _ w ⟨oN, rfl, hH⟩ a hA) | (refine AT ?_; clear hA; rintro _ w ⟨oN, cN, rfl, hH2⟩ a hA; clear hH; have hH := (hH2 _ (by (repeat constructor))).tail; clear hH2) | (refine S0T ?_; clear hH; rintro _ w hH) )) | ((first | refine CT ?_ | (refine DT ?_ ?_ <;> intro hc <;> try (exfalso; omega))) <;> repeat' refine CT ?_) | (first | (refine DSK ?_; clear hA a; intro a hA) | (first | (refine DLT ?_; clear hA hH; rintro _ w ⟨oN, rfl, hH⟩; refine ⟨STT, ?_⟩; intro a hA) | (refine DAT ?_; clear hA; rintro _ w ⟨oN, cN, rfl, hH2⟩; clear hH; have hH := (hH2 _ (by (repeat constructor))).tail; clear hH2; refine ⟨STT, ?_⟩; intro a hA))) )
    rw [rgM_eq, flatR_snoc, ← regsOf_next hx, regsOf_next_len hx] at hH
    rw [regsOf_next_len hx] at hA
    exact ⟨i + 1, ⟨oN, cN, hlt, hH, (hA.sub (by (repeat (first | exact trivial | refine ⟨rfl, ?_⟩))))⟩, by omega⟩
  clear hA hH
  rintro a w ⟨o, c, hH, hA⟩
  repeat' (first | (first | (refine GT ?_ ?_ <;> intro hg <;> clear hA a <;> intro a hA <;> (first | exact FA | replace hg := of_decide_eq_true hg | replace hg := of_decide_eq_false hg | skip)) | (refine QT ?_; clear hA a; intro a hA) | (first | (refine BT ?_; clear hA hH; rintro _ w ⟨bN, rfl, hH⟩ a hA) | (refine LT ?_; clear hA hH; rintro _ w ⟨oN, rfl, hH⟩ a hA) | (refine AT ?_; clear hA; rintro _ w ⟨oN, cN, rfl, hH2⟩ a hA; clear hH; have hH := (hH2 _ (by (repeat constructor))).tail; clear hH2) | (refine S0T ?_; clear hH; rintro _ w hH) )) | ((first | refine CT ?_ | (refine DT ?_ ?_ <;> intro hc <;> try (exfalso; omega))) <;> repeat' refine CT ?_) | (first | (refine DSK ?_; clear hA a; intro a hA) | (first | (refine DLT ?_; clear hA hH; rintro _ w ⟨oN, rfl, hH⟩; refine ⟨STT, ?_⟩; intro a hA) | (refine DAT ?_; clear hA; rintro _ w ⟨oN, cN, rfl, hH2⟩; clear hH; have hH := (hH2 _ (by (repeat constructor))).tail; clear hH2; refine ⟨STT, ?_⟩; intro a hA))) )
  exact rt2 (.inl rfl) rfl hA rfl rfl ⟨ss, pl, s1, hsl, hF, hpl, hgo, .inr ⟨hge, o, c, rfl, hH⟩⟩
end Go.Proofs.Ytjfanjcoppeeaaa
namespace Go.Proofs.Ytjfanjcoppeeaaa
open Go Go.Fw
set_option linter.unusedVariables false
/-- row n holds what lives into block n, rising -/
def LiveOk (ss : List (Option (Nat × List Int))) (rows : List (List Int)) : Prop := ∀ (n : Nat) (r : List Int), rows[n]? = some r → (∀ x, x ∈ r ↔ x ∈ setAt ss n) ∧ r.Pairwise (· ≤ ·) ∧ r.Nodup
theorem live_add {ss : List (Option (Nat × List Int))} {rows : List (List Int)} {i : Nat} {st : Option (Nat × List Int)} {r : List Int} (h : LiveOk ss rows) (hl : rows.length = i) (hs : ss[i]? = some st) (h1 : ∀ x, x ∈ r ↔ x ∈ kso st) (h2 : r.Pairwise (· ≤ ·)) (h3 : r.Nodup) : LiveOk ss (rows ++ [r]) := by
  intro n s hn
  rcases Nat.lt_or_ge n rows.length with h4 | h4
  · rw [List.getElem?_append_left h4] at hn
    exact h n s hn
  · rw [List.getElem?_append_right h4] at hn
    have h5 := (List.getElem?_eq_some_iff.1 hn).1
    have h6 : n = i := by
      have : n - rows.length < 1 := by simpa using h5
      omega
    subst h6
    rw [hl, Nat.sub_self] at hn
    cases hn
    refine ⟨fun x => (h1 x).trans ?_, h2, h3⟩
    unfold setAt
    rw [hs]
    rfl
theorem flatS_snoc (l : List Sd) (o : Option Addr) (n c : Nat) : flat Fw.encS l ++ [.slice o n c] = flat Fw.encS (l ++ [(o, n, c)]) := by rw [flat_snoc]; rfl
theorem lenD (l : List Sd) (x : Sd) : (l ++ [x]).length = l.length + 1 := by rw [List.length_append]; rfl
set_option maxRecDepth 10000 attribute [local irreducible] Code.wp wpList Calls Ex Op1 sat bat blk cb own Go.Fw.mp Go.Fw.mpO Go.Fw.mpI Go.Fw.mpE Go.Fw.itr HS Rd Ret wkD Hp Cl Cls Exit.then Exit.inBlock Exit.noGoto bodyPost Go.Fw.flat wk2 Go.Fw.all Go.Fw.owns wpOp
attribute [local irreducible] sk mpK srt sko mvO insP blkP skP varsL

set_option maxHeartbeats 8000000 in
theorem Live_spec (w0 : World) (f : Gr) (hR : RdG w0 f) (hU : Up f) (hS : Small f) :
    Ret Try.prog 14 #[.agg (encG f).toArray] w0 (fun v w => ∃ ss ds rows o c, ss.length = f.bs.l.length ∧ (∀ n, FixAt f ss n) ∧ rows.length = f.bs.l.length ∧ ds.length = rows.length ∧ LiveOk ss rows ∧ v = .slice o ds.length c ∧
      HS w0 noM [own 44 1 o ds.length c (flat Fw.encS ds), all (owns 3 1 Fw.encI ds rows)] w) := by
  have hH : HS w0 noM [] w0 := HS.init w0 noM
  (refine enter (N := 20) Try.func14 rfl Try.ntmps14 rfl ?_; intro a hA; dsimp only [sl0, Nat.reduceAdd] at hA)
  repeat' (first | (first | (refine GT ?_ ?_ <;> intro hg <;> clear hA a <;> intro a hA <;> (first | exact FA | replace hg := of_decide_eq_true hg | replace hg := of_decide_eq_false hg | skip)) | (refine QT ?_; clear hA a; intro a hA) | (first | (refine BT ?_; clear hA hH; rintro _ w ⟨bN, rfl, hH⟩ a hA) | (refine LT ?_; clear hA hH; rintro _ w ⟨oN, rfl, hH⟩ a hA) | (refine AT ?_; clear hA; rintro _ w ⟨oN, cN, rfl, hH2⟩ a hA; clear hH; have hH := (hH2 _ (by (repeat constructor))).tail; clear hH2) | (refine S0T ?_; clear hH; rintro _ w hH) )) | ((first | refine CT ?_ | (refine DT ?_ ?_ <;> intro hc <;> try (exfalso; omega))) <;> repeat' refine CT ?_) | (first | (refine DSK ?_; clear hA a; intro a hA) | (first | (refine DLT ?_; clear hA hH; rintro _ w ⟨oN, rfl, hH⟩; refine ⟨STT, ?_⟩; intro a hA) | (refine DAT ?_; clear hA; rintro _ w ⟨oN, cN, rfl, hH2⟩; clear hH; have hH := (hH2 _ (by (repeat constructor))).tail; clear hH2; refine ⟨STT, ?_⟩; intro a hA))) )
  obtain ⟨bF, hbF⟩ : ∃ x, x = bN := ⟨_, rfl⟩
  rw [← hbF] at hA hH
  clear hbF bN
  (refine st_op hA rfl rfl (by decide) (op_call rfl rfl rfl (live_spec w0 _ _ f hH hR hU hS.bs)) ?_; clear hA hH; rintro _ w ⟨oI, cI, ss, rfl, hsl, hF, hH⟩ a hA)
  repeat' (first | (first | (refine GT ?_ ?_ <;> intro hg <;> clear hA a <;> intro a hA <;> (first | exact FA | replace hg := of_decide_eq_true hg | replace hg := of_decide_eq_false hg | skip)) | (refine QT ?_; clear hA a; intro a hA) | (first | (refine BT ?_; clear hA hH; rintro _ w ⟨bN, rfl, hH⟩ a hA) | (refine LT ?_; clear hA hH; rintro _ w ⟨oN, rfl, hH⟩ a hA) | (refine AT ?_; clear hA; rintro _ w ⟨oN, cN, rfl, hH2⟩ a hA; clear hH; have hH := (hH2 _ (by (repeat constructor))).tail; clear hH2) | (refine S0T ?_; clear hH; rintro _ w hH) )) | ((first | refine CT ?_ | (refine DT ?_ ?_ <;> intro hc <;> try (exfalso; omega))) <;> repeat' refine CT ?_) | (first | (refine DSK ?_; clear hA a; intro a hA) | (first | (refine DLT ?_; clear hA hH; rintro _ w ⟨oN, rfl, hH⟩; refine ⟨STT, ?_⟩; intro a hA) | (refine DAT ?_; clear hA; rintro _ w ⟨oN, cN, rfl, hH2⟩; clear hH; have hH := (hH2 _ (by (repeat constructor))).tail; clear hH2; refine ⟨STT, ?_⟩; intro a hA))) )
  have hspI := hH.own_sp (T := 72) (o := oI) (.head _)
  refine wp_lpk (S := Nat) (fun i a w => ∃ ds rows o c, (i ≤ f.bs.l.length ∧ rows.length = i ∧ ds.length = rows.length ∧ LiveOk ss rows) ∧ HS w0 noM [own 44 1 o ds.length c (flat Fw.encS ds), all (owns 3 1 Fw.encI ds rows), own 72 1 oI ss.length cI (flat encO ss), all (ss.map sko), cb bF 30 (encG f)] w ∧
      Sl 20 [(9, .int .i64 i), (8, .int .i64 ss.length), (7, .slice oI ss.length cI), (3, .slice o ds.length c)] a) (fun i => f.bs.l.length - i)
    (fun a w => ∃ ds rows o c, (rows.length = f.bs.l.length ∧ ds.length = rows.length ∧ LiveOk ss rows) ∧ HS w0 noM [own 44 1 o ds.length c (flat Fw.encS ds), all (owns 3 1 Fw.encI ds rows)] w ∧ Sl 20 [(3, .slice o ds.length c)] a) 0 ⟨[], [], none, 0, ⟨Nat.zero_le _, rfl, rfl, fun n r h => by cases h⟩, ((HS.owns_nil 3 1 Fw.encI 0 hH).nil_flat Fw.encS 44 1).perm (by (repeat (first | exact List.Perm.refl _ | exact List.Perm.nil | refine perm_pick 0 rfl ?_ | refine perm_pick 1 rfl ?_ | refine perm_pick 2 rfl ?_ | refine perm_pick 3 rfl ?_ | refine perm_pick 4 rfl ?_ | refine perm_pick 5 rfl ?_ | refine perm_pick 6 rfl ?_ | refine perm_pick 7 rfl ?_ | refine perm_pick 8 rfl ?_ | refine perm_pick 9 rfl ?_ | refine perm_pick 10 rfl ?_ | refine perm_pick 11 rfl ?_))), (hA.sub (by (repeat (first | exact trivial | refine ⟨rfl, ?_⟩))))⟩ ?_ ?_
  · clear hA hH
    rintro i a w ⟨ds, rows, o, c, ⟨hi, hrl, hdl, hok⟩, hH, hA⟩
    by_cases hlt : i < f.bs.l.length
    rotate_left
    · obtain rfl : i = f.bs.l.length := by omega
      repeat' (first | (first | (refine GT ?_ ?_ <;> intro hg <;> clear hA a <;> intro a hA <;> (first | exact FA | replace hg := of_decide_eq_true hg | replace hg := of_decide_eq_false hg | skip)) | (refine QT ?_; clear hA a; intro a hA) | (first | (refine BT ?_; clear hA hH; rintro _ w ⟨bN, rfl, hH⟩ a hA) | (refine LT ?_; clear hA hH; rintro _ w ⟨oN, rfl, hH⟩ a hA) | (refine AT ?_; clear hA; rintro _ w ⟨oN, cN, rfl, hH2⟩ a hA; clear hH; have hH := (hH2 _ (by (repeat constructor))).tail; clear hH2) | (refine S0T ?_; clear hH; rintro _ w hH) )) | ((first | refine CT ?_ | (refine DT ?_ ?_ <;> intro hc <;> try (exfalso; omega))) <;> repeat' refine CT ?_) | (first | (refine DSK ?_; clear hA a; intro a hA) | (first | (refine DLT ?_; clear hA hH; rintro _ w ⟨oN, rfl, hH⟩; refine ⟨STT, ?_⟩; intro a hA) | (refine DAT ?_; clear hA; rintro _ w ⟨oN, cN, rfl, hH2⟩; clear hH; have hH := (hH2 _ (by (repeat constructor))).tail; clear hH2; refine ⟨STT, ?_⟩; intro a hA))) )
      exact ⟨ds, rows, o, c, ⟨hrl, hdl, hok⟩, HS.left (H1 := [_, _]) hH, (hA.sub (by (repeat (first | exact trivial | refine ⟨rfl, ?_⟩))))⟩
    obtain ⟨st, hst⟩ : ∃ st, ss[i]? = some st := ⟨_, List.getElem?_eq_getElem (by omega)⟩
    have hbl := List.getElem?_eq_getElem hlt
    have hSb := hS.bs
    have hvI : (flat encO ss)[i * 1]? = some (mvO st) := flat_get (off := 0) encO_len hst (by rw [encO_eq]; rfl)
    have hsm : (ss.map sko)[i]? = some (sko st) := by rw [List.getElem?_map, hst]; rfl
    repeat' (first | (first | (refine GT ?_ ?_ <;> intro hg <;> clear hA a <;> intro a hA <;> (first | exact FA | replace hg := of_decide_eq_true hg | replace hg := of_decide_eq_false hg | skip)) | ((first | apply st_ex hA hH rfl rfl (by decide) | apply dr_ex hA rfl rfl rfl (by decide) | apply dr_exp hA rfl rfl rfl (by decide) | apply dr_ex3 hA hH rfl rfl rfl (by decide)); (first | (apply ex_indexAddr_nat; rfl; rfl; omega; exact hspI) | (apply ex_load; rfl; apply cl_own (T := 72); exact MEMT; exact hvI)); clear hA a; intro a hA) | (refine QT ?_; clear hA a; intro a hA) | (first | (refine BT ?_; clear hA hH; rintro _ w ⟨bN, rfl, hH⟩ a hA) | (refine LT ?_; clear hA hH; rintro _ w ⟨oN, rfl, hH⟩ a hA) | (refine AT ?_; clear hA; rintro _ w ⟨oN, cN, rfl, hH2⟩ a hA; clear hH; have hH := (hH2 _ (by (repeat constructor))).tail; clear hH2) | (refine S0T ?_; clear hH; rintro _ w hH) )) | ((first | refine CT ?_ | (refine DT ?_ ?_ <;> intro hc <;> try (exfalso; omega))) <;> repeat' refine CT ?_) | (first | (refine DSK ?_; clear hA a; intro a hA) | (first | (refine DLT ?_; clear hA hH; rintro _ w ⟨oN, rfl, hH⟩; refine ⟨STT, ?_⟩; intro a hA) | (refine DAT ?_; clear hA; rintro _ w ⟨oN, cN, rfl, hH2⟩; clear hH; have hH := (hH2 _ (by (repeat constructor))).tail; clear hH2; refine ⟨STT, ?_⟩; intro a hA))) )
    replace hH := (hH.up 3 rfl).openAt hsm
    dsimp only [List.eraseIdx_cons_succ, List.eraseIdx_cons_zero] at hH
    have hkl := hS.sets ss hsl hF _ _ (isAt_n hbl hst (sko_nodup (st := st) hH (.head _)))
    (refine st_op hA rfl rfl (by decide) (op_call rfl rfl rfl (sortedS_spec w0 _ _ st hH hkl)) ?_; clear hA hH; rintro _ w ⟨oR, cR, row, rfl, hr1, hr2, hr3, hH⟩ a hA)
    replace hH := (hH.up 1 rfl).perm (H' := sko st :: all ((ss.map sko).eraseIdx i) :: own 3 1 oR row.length cR (flat Fw.encI row) :: own 44 1 o ds.length c (flat Fw.encS ds) :: all (owns 3 1 Fw.encI ds rows) :: own 72 1 oI ss.length cI (flat encO ss) :: cb bF 30 (encG f) :: []) (by (repeat (first | exact List.Perm.refl _ | exact List.Perm.nil | refine perm_pick 0 rfl ?_ | refine perm_pick 1 rfl ?_ | refine perm_pick 2 rfl ?_ | refine perm_pick 3 rfl ?_ | refine perm_pick 4 rfl ?_ | refine perm_pick 5 rfl ?_ | refine perm_pick 6 rfl ?_ | refine perm_pick 7 rfl ?_ | refine perm_pick 8 rfl ?_ | refine perm_pick 9 rfl ?_ | refine perm_pick 10 rfl ?_ | refine perm_pick 11 rfl ?_)))
    replace hH := hH.shutAt (x := sko st) (by rw [List.length_map]; omega)
    rw [set_same hsm] at hH
    replace hH := (HS.pushA (hH.perm (H' := own 3 1 oR row.length cR (flat Fw.encI row) :: all (owns 3 1 Fw.encI ds rows) :: own 44 1 o ds.length c (flat Fw.encS ds) :: own 72 1 oI ss.length cI (flat encO ss) :: all (ss.map sko) :: cb bF 30 (encG f) :: []) (by (repeat (first | exact List.Perm.refl _ | exact List.Perm.nil | refine perm_pick 0 rfl ?_ | refine perm_pick 1 rfl ?_ | refine perm_pick 2 rfl ?_ | refine perm_pick 3 rfl ?_ | refine perm_pick 4 rfl ?_ | refine perm_pick 5 rfl ?_ | refine perm_pick 6 rfl ?_ | refine perm_pick 7 rfl ?_ | refine perm_pick 8 rfl ?_ | refine perm_pick 9 rfl ?_ | refine perm_pick 10 rfl ?_ | refine perm_pick 11 rfl ?_)))))
    rw [← owns_snoc (enc := Fw.encI) hdl (oR, row.length, cR) row] at hH
    repeat' (first | (first | (refine GT ?_ ?_ <;> intro hg <;> clear hA a <;> intro a hA <;> (first | exact FA | replace hg := of_decide_eq_true hg | replace hg := of_decide_eq_false hg | skip)) | (refine QT ?_; clear hA a; intro a hA) | (first | (refine BT ?_; clear hA hH; rintro _ w ⟨bN, rfl, hH⟩ a hA) | (refine LT ?_; clear hA hH; rintro _ w ⟨oN, rfl, hH⟩ a hA) | (refine AT ?_; clear hA; rintro _ w ⟨oN, cN, rfl, hH2⟩ a hA; clear hH; have hH := (hH2 _ (by (repeat constructor))).tail; clear hH2) | (refine S0T ?_; clear hH; rintro _ w hH) )) | ((first | refine CT ?_ | (refine DT ?_ ?_ <;> intro hc <;> try (exfalso; omega))) <;> repeat' refine CT ?_) | (first | (refine DSK ?_; clear hA a; intro a hA) | (first | (refine DLT ?_; clear hA hH; rintro _ w ⟨oN, rfl, hH⟩; refine ⟨STT, ?_⟩; intro a hA) | (refine DAT ?_; clear hA; rintro _ w ⟨oN, cN, rfl, hH2⟩; clear hH; have hH := (hH2 _ (by (repeat constructor))).tail; clear hH2; refine ⟨STT, ?_⟩; intro a hA))) )
    rw [flatS_snoc, ← lenD ds (oR, row.length, cR)] at hH
    rw [← lenD ds (oR, row.length, cR)] at hA
    exact ⟨i + 1, ⟨ds ++ [(oR, row.length, cR)], rows ++ [row], oN, cN, ⟨hlt, by rw [List.length_append, hrl]; rfl, by rw [List.length_append, List.length_append, hdl]; rfl, live_add hok hrl hst hr1 hr2 hr3⟩, hH.perm (by (repeat (first | exact List.Perm.refl _ | exact List.Perm.nil | refine perm_pick 0 rfl ?_ | refine perm_pick 1 rfl ?_ | refine perm_pick 2 rfl ?_ | refine perm_pick 3 rfl ?_ | refine perm_pick 4 rfl ?_ | refine perm_pick 5 rfl ?_ | refine perm_pick 6 rfl ?_ | refine perm_pick 7 rfl ?_ | refine perm_pick 8 rfl ?_ | refine perm_pick 9 rfl ?_ | refine perm_pick 10 rfl ?_ | refine perm_pick 11 rfl ?_))), (hA.sub (by (repeat (first | exact trivial | refine ⟨rfl, ?_⟩))))⟩, by omega⟩
  clear hA hH
  rintro a w ⟨ds, rows, o, c, ⟨hrl, hdl, hok⟩, hH, hA⟩
  repeat' (first | (first | (refine GT ?_ ?_ <;> intro hg <;> clear hA a <;> intro a hA <;> (first | exact FA | replace hg := of_decide_eq_true hg | replace hg := of_decide_eq_false hg | skip)) | (refine QT ?_; clear hA a; intro a hA) | (first | (refine BT ?_; clear hA hH; rintro _ w ⟨bN, rfl, hH⟩ a hA) | (refine LT ?_; clear hA hH; rintro _ w ⟨oN, rfl, hH⟩ a hA) | (refine AT ?_; clear hA; rintro _ w ⟨oN, cN, rfl, hH2⟩ a hA; clear hH; have hH := (hH2 _ (by (repeat constructor))).tail; clear hH2) | (refine S0T ?_; clear hH; rintro _ w hH) )) | ((first | refine CT ?_ | (refine DT ?_ ?_ <;> intro hc <;> try (exfalso; omega))) <;> repeat' refine CT ?_) | (first | (refine DSK ?_; clear hA a; intro a hA) | (first | (refine DLT ?_; clear hA hH; rintro _ w ⟨oN, rfl, hH⟩; refine ⟨STT, ?_⟩; intro a hA) | (refine DAT ?_; clear hA; rintro _ w ⟨oN, cN, rfl, hH2⟩; clear hH; have hH := (hH2 _ (by (repeat constructor))).tail; clear hH2; refine ⟨STT, ?_⟩; intro a hA))) )
  exact rt1 (.inl rfl) rfl hA rfl ⟨ss, ds, rows, o, c, hsl, hF, hrl, hdl, hok, rfl, hH⟩
end Go.Proofs.Ytjfanjcoppeeaaa
namespace Go.Proofs.Ytjfanjcoppeeaaa
open Go Go.Fw
set_option linter.unusedVariables false
open Classical in
/-- what lives behind an Ins, by the document -/
noncomputable def bhB (ss : List (Option (Nat × List Int))) (bl : Blc) (k : Nat) (x : Int) : Bool := decide (x ≠ (bl.is.l.getD k ins0).x ∧ LvAt ss bl (k + 1) x)
noncomputable def bhF (f : Gr) (ss : List (Option (Nat × List Int))) (bl : Blc) (k : Nat) : List Int := filF (bhB ss bl k) (vrs f)
theorem getD_at {l : List Ins} {k : Nat} {i : Ins} (h : l[k]? = some i) : l.getD k ins0 = i := by
  rw [List.getD_eq_getElem?_getD, h]
  rfl
open Classical in
theorem bhB_iff {ss : List (Option (Nat × List Int))} {bl : Blc} {k : Nat} {ins : Ins} (h : bl.is.l[k]? = some ins) (x : Int) : bhB ss bl k x = true ↔ x ≠ ins.x ∧ LvAt ss bl (k + 1) x := by
  unfold bhB
  rw [getD_at h]
  exact ⟨fun h => of_decide_eq_true h, fun h => decide_eq_true h⟩
noncomputable def cnt (f : Gr) (ss : List (Option (Nat × List Int))) (sl : Nat × Option Nat) : Nat :=
  let bl := f.bs.l.getD sl.1 blc0
  match sl.2 with
  | none => bl.ps.l.length + (intoF f ss sl.1 (vrs f)).length
  | some k => 1 + (bhF f ss bl k).length
noncomputable def prs (f : Gr) (ss : List (Option (Nat × List Int))) (sls : List (Nat × Option Nat)) : Nat := (sls.map (cnt f ss)).foldl max 2
theorem blD {f : Gr} {n : Nat} {bl : Blc} (h : f.bs.l[n]? = some bl) : f.bs.l.getD n blc0 = bl := by
  rw [List.getD_eq_getElem?_getD, h]
  rfl
theorem cnt_n {f : Gr} {ss : List (Option (Nat × List Int))} {n : Nat} {bl : Blc} (h : f.bs.l[n]? = some bl) : cnt f ss (n, none) = bl.ps.l.length + (intoF f ss n (vrs f)).length := by
  unfold cnt
  rw [blD h]
theorem cnt_i {f : Gr} {ss : List (Option (Nat × List Int))} {n k : Nat} {bl : Blc} (h : f.bs.l[n]? = some bl) : cnt f ss (n, some k) = 1 + (bhF f ss bl k).length := by
  unfold cnt
  rw [blD h]
theorem slotB_0 (n : Nat) : slotB n 0 = [(n, none)] := rfl
theorem slots_0 (f : Gr) : slots f 0 = [] := rfl
theorem vrs_le {f : Gr} (hb : (varsL f.bs.l).length ≤ 1000000) : (vrs f).length ≤ 1000000 := by rw [vrs_len]; exact hb
set_option maxRecDepth 10000 attribute [local irreducible] Code.wp wpList Calls Ex Op1 sat bat blk cb own Go.Fw.mp Go.Fw.mpO Go.Fw.mpI Go.Fw.mpE Go.Fw.itr HS Rd Ret wkD Hp Cl Cls Exit.then Exit.inBlock Exit.noGoto bodyPost Go.Fw.flat wk2 Go.Fw.all Go.Fw.owns wpOp
attribute [local irreducible] sk mpK srt sko mvO insP blkP skP varsL vrs intoF filF bhF cnt prs slots slotB

end Go.Proofs.Ytjfanjcoppeeaaa
namespace Go.Proofs.Ytjfanjcoppeeaaa
open Go Go.Fw
set_option linter.unusedVariables false
/-- registers are right at a slot, by the document -/
def okS (f : Gr) (ss : List (Option (Nat × List Int))) (l : List Rg) (sl : Nat × Option Nat) : Prop :=
  ∀ bl, f.bs.l[sl.1]? = some bl → match sl.2 with
    | none => ((bl.ps.l ++ intoF f ss sl.1 (vrs f)).map (regOf l)).Nodup
    | some k => ∀ ins, bl.is.l[k]? = some ins → ∀ x ∈ bhF f ss bl k, regOf l x ≠ regOf l ins.x
theorem okS_n {f : Gr} {ss : List (Option (Nat × List Int))} {l : List Rg} {n : Nat} {bl : Blc} (hbl : f.bs.l[n]? = some bl) : okS f ss l (n, none) ↔ ((bl.ps.l ++ intoF f ss n (vrs f)).map (regOf l)).Nodup := by
  constructor
  · intro h
    exact h bl hbl
  · intro h b hb
    rw [hbl] at hb
    cases hb
    exact h
theorem okS_i {f : Gr} {ss : List (Option (Nat × List Int))} {l : List Rg} {n k : Nat} {bl : Blc} {ins : Ins} (hbl : f.bs.l[n]? = some bl) (hi : bl.is.l[k]? = some ins) : okS f ss l (n, some k) ↔ ∀ x ∈ bhF f ss bl k, regOf l x ≠ regOf l ins.x := by
  constructor
  · intro h
    exact h bl hbl ins hi
  · intro h b hb i hi'
    rw [hbl] at hb
    cases hb
    rw [hi] at hi'
    cases hi'
    exact h
set_option maxRecDepth 10000 attribute [local irreducible] Code.wp wpList Calls Ex Op1 sat bat blk cb own Go.Fw.mp Go.Fw.mpO Go.Fw.mpI Go.Fw.mpE Go.Fw.itr HS Rd Ret wkD Hp Cl Cls Exit.then Exit.inBlock Exit.noGoto bodyPost Go.Fw.flat wk2 Go.Fw.all Go.Fw.owns wpOp
attribute [local irreducible] sk mpK srt sko mvO insP blkP skP varsL vrs intoF filF bhF cnt prs slots slotB regOf

end Go.Proofs.Ytjfanjcoppeeaaa
