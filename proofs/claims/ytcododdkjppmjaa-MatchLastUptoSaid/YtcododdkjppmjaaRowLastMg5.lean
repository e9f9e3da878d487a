/-
  The walk over a tree that shares nothing (own). Conditions: none.
  The walk over Compile (the program's). Conditions: none.
  Walks over the document's small functions: a path by a step; a row's condition of a path. Conditions: none.
  The walk over a row made plain (the document's). Conditions: none.
  The walk over the rows that are left where something is known (the document's). Conditions: none.
  The walk over the document's tree, where nothing is tested. Conditions: none.
  The walk over the document's tree, where something is tested. Conditions: none.
  The walk over Compile (the document's). Conditions: none.
  The walk over Same: equal trees are told the same. Conditions: none.
  The walk over a tree that is written over. Conditions: none.
  What is one's own can be read; walks over leaves and Count. Conditions: none.
-/
import Derived.Test.YtcododdkjppmjaaRowLastMg4
namespace Go.Proofs.Ytcododdkjppmjaa
open Go Go.Fw
set_option linter.unusedVariables false
def itB (b : MB) : It := own 9 1 b.o b.q.length b.c (flat encX b.q)
mutual
/-- all that a tree holds -/
def itF : MT → List It
  | .mk _ _ _ ob cb bs oq cq q ot ct ts oe ce es => [own 9 1 oq q.length cq (flat encX q), own 72 2 ob bs.length cb (flat encB bs), all (bs.map itB), own 75 12 ot ts.length ct (flat encR ts), own 29 6 oe es.length ce (flat encT es), all (itFs ts), all (itFs es)]
def itFs : List MT → List It
  | [] => []
  | t :: ts => all (itF t) :: itFs ts
end
theorem itFs_map : ∀ (ts : List MT), itFs ts = ts.map fun t => all (itF t)
  | [] => rfl
  | t :: ts => by rw [itFs, itFs_map ts]; rfl
theorem itFs_nil : itFs [] = [] := rfl
theorem itFs_snoc (ts : List MT) (t : MT) : itFs (ts ++ [t]) = itFs ts ++ [all (itF t)] := by rw [itFs_map, itFs_map]; simp
theorem itTs_cons (ts : List MT) (t : MT) : itTs (t :: ts) = all (itT t) :: itTs ts := rfl
theorem itF_eq (t : MT) : itF t = [own 9 1 t.oq t.q.length t.cq (flat encX t.q), own 72 2 t.ob t.bs.length t.cb (flat encB t.bs), all (t.bs.map itB), own 75 12 t.ot t.ts.length t.ct (flat encR t.ts), own 29 6 t.oe t.es.length t.ce (flat encT t.es), all (itFs t.ts), all (itFs t.es)] := by
  cases t; rw [itF]; rfl
theorem RdTB.b {w : World} {t : MT} (h : RdTB w t) : RdBs w t.ob t.cb t.bs := by cases h; assumption
theorem RdTB.t {w : World} {t : MT} (h : RdTB w t) : ∀ s ∈ t.ts, RdTB w s := by cases h; assumption
theorem RdTB.e {w : World} {t : MT} (h : RdTB w t) : ∀ s ∈ t.es, RdTB w s := by cases h; assumption
theorem trS_of {t : MT} (h : TrS t.un) : t.bs.length ≤ 256 ∧ t.q.length ≤ 256 ∧ (∀ b ∈ t.bs, b.q.length ≤ 256) ∧ (∀ s ∈ t.ts, TrS s.un) ∧ ∀ s ∈ t.es, TrS s.un := by
  rw [un_eq] at h
  cases h with
  | mk h1 h2 h3 h4 h5 =>
    rw [List.length_map] at h1
    exact ⟨h1, h2, fun b hb => h3 b.un (List.mem_map.2 ⟨b, hb, rfl⟩), fun s hs => h4 s.un (List.mem_map.2 ⟨s, hs, rfl⟩), fun s hs => h5 s.un (List.mem_map.2 ⟨s, hs, rfl⟩)⟩
theorem mt_lt {t s : MT} (h : s ∈ t.ts) : SizeOf.sizeOf s < SizeOf.sizeOf t := by
  cases t with
  | mk h0 k n ob cb bs oq cq q ot ct ts oe ce es =>
    have := List.sizeOf_lt_of_mem (show s ∈ ts from h)
    simp
    omega
theorem me_lt {t s : MT} (h : s ∈ t.es) : SizeOf.sizeOf s < SizeOf.sizeOf t := by
  cases t with
  | mk h0 k n ob cb bs oq cq q ot ct ts oe ce es =>
    have := List.sizeOf_lt_of_mem (show s ∈ es from h)
    simp
    omega
theorem mid_at {α : Type} {a b : List α} {i : Nat} {x : α} (hl : a.length = i) (hx : b[i]? = some x) : (a ++ b.drop i)[i]? = some x ∧ ∀ y, (a ++ b.drop i).set i y = (a ++ [y]) ++ b.drop (i + 1) := by
  obtain ⟨h1, h2⟩ := List.getElem?_eq_some_iff.1 hx
  have hd : b.drop i = x :: b.drop (i + 1) := by rw [List.drop_eq_getElem_cons h1, h2]
  rw [hd]
  refine ⟨by rw [List.getElem?_append_right (by omega), hl, Nat.sub_self]; rfl, fun y => ?_⟩
  rw [List.set_append_right (h := by omega), hl, Nat.sub_self, List.append_assoc]
  rfl
theorem mid_len {α : Type} {a b : List α} {i : Nat} (hl : a.length = i) (hi : i ≤ b.length) : (a ++ b.drop i).length = b.length := by rw [List.length_append, List.length_drop]; omega
theorem put_T {s t : MT} : Fw.put (encT s) 0 (encT t) = encT t := rfl
theorem put_R2 {s t : MT} (h : t.h = s.h) : Fw.put (encR s) 6 (encT t) = encR t := by
  rw [encR_split, encR_split, h]
  rfl
set_option maxRecDepth 10000 attribute [local irreducible] Code.wp wpList Calls Ex Op1 sat bat blk cb own Go.Fw.mp Go.Fw.mpO Go.Fw.mpI Go.Fw.mpE Go.Fw.itr HS Rd Ret wkD Hp Cl Cls Exit.then Exit.inBlock Exit.noGoto bodyPost Go.Fw.flat wk2 Go.Fw.all Go.Fw.owns wpOp
attribute [local irreducible] encA encC encL itT itTs itF itFs

set_option maxHeartbeats 8000000 in
theorem own_spec : ∀ (z : Nat) (t : MT), SizeOf.sizeOf t < z → ∀ (w0 w : World) (H : List It) (K : World → Prop), HS w0 noM (all (itT t) :: frz w0 K :: H) w → (∀ w, K w → RdTB w t) → TrS t.un →
    Ret Try.prog 22 #[.agg (encT t).toArray] w (fun v w' => ∃ t' : MT, v = .agg (encT t').toArray ∧ t'.h = t.h ∧ t'.un = t.un ∧ HS w0 noM (all (itF t') :: frz w0 K :: H) w')
  | 0, p, hz, _, _, _, _, _, _, _ => absurd hz (Nat.not_lt_zero _)
  | z + 1, t, hz, w0, w, H, K, hH, hR, hS => by
    have hts := trS_of hS
    rw [itT_eq] at hH
    replace hH := hH.open_
    have hleQ := hH.own_le (T := 9) (xs := flat encX t.q) (by exact MEMT)
    have hleR := hH.own_le (T := 75) (xs := flat encR t.ts) (by exact MEMT)
    have hleE := hH.own_le (T := 29) (xs := flat encT t.es) (by exact MEMT)
    have hspQ : t.oq = none → t.q.length = 0 := fun h0 => by rw [h0] at hH; exact (hH.own_none (T := 9) (xs := flat encX t.q) (by exact MEMT)).1
    have hb0 := (hR _ (hH.frz (by exact MEMT))).b
    have hspB : t.ob = none → t.bs.length = 0 := fun h0 => by
      rcases Nat.eq_zero_or_pos t.bs.length with h1 | h1
      · exact h1
      · obtain ⟨b, off, h2⟩ := hb0.1.sp (sz := 2) (flat_length encB_len t.bs) (by omega) h1
        rw [h0] at h2; cases h2
    clear hb0
    unfold maxLen at hleR hleE
    (refine enter (N := 67) Try.func22 rfl Try.ntmps22 rfl ?_; intro a hA; dsimp only [sl0, Nat.reduceAdd] at hA)
    repeat' (first | (first | (refine GT ?_ ?_ <;> intro hg <;> clear hA a <;> intro a hA <;> (first | exact FA | replace hg := of_decide_eq_true hg | replace hg := of_decide_eq_false hg | skip)) | (refine QT ?_; clear hA a; intro a hA) | (first | (refine BT ?_; clear hA hH; rintro _ w ⟨bN, rfl, hH⟩ a hA) | (refine LT ?_; clear hA hH; rintro _ w ⟨oN, rfl, hH⟩ a hA) | (refine AT ?_; clear hA; rintro _ w ⟨oN, cN, rfl, hH2⟩ a hA; clear hH; have hH := (hH2 _ (by (repeat constructor))).tail; clear hH2) | (refine S0T ?_; clear hH; rintro _ w hH) )) | ((first | refine CT ?_ | (refine DT ?_ ?_ <;> intro hc <;> try (exfalso; omega))) <;> repeat' refine CT ?_) | (first | (refine DSK ?_; clear hA a; intro a hA) | (first | (refine DLT ?_; clear hA hH; rintro _ w ⟨oN, rfl, hH⟩; refine ⟨STT, ?_⟩; intro a hA) | (refine DAT ?_; clear hA; rintro _ w ⟨oN, cN, rfl, hH2⟩; clear hH; have hH := (hH2 _ (by (repeat constructor))).tail; clear hH2; refine ⟨STT, ?_⟩; intro a hA))) )
    obtain ⟨b2, hb2⟩ : ∃ b, b = bN := ⟨_, rfl⟩
    rw [← hb2] at hA hH
    clear hb2 bN
    obtain ⟨b1, hb1⟩ : ∃ b, b = bN := ⟨_, rfl⟩
    rw [← hb1] at hA hH
    clear hb1 bN
    (refine st_op hA rfl rfl (by decide) (op_call rfl rfl rfl (cloneX_spec _ t.oq t.q.length t.cq (flat encX t.q) (hH.own_rd (by exact MEMT)) (flat_length encX_len t.q) (encX_one _) hspQ (by omega))) ?_; clear hA; rintro _ w ⟨o1, c1, rfl, hj⟩ a hA; replace hH := hH.join hj; clear hj)
    repeat' (first | (first | (refine GT ?_ ?_ <;> intro hg <;> clear hA a <;> intro a hA <;> (first | exact FA | replace hg := of_decide_eq_true hg | replace hg := of_decide_eq_false hg | skip)) | (refine QT ?_; clear hA a; intro a hA) | (first | (refine BT ?_; clear hA hH; rintro _ w ⟨bN, rfl, hH⟩ a hA) | (refine LT ?_; clear hA hH; rintro _ w ⟨oN, rfl, hH⟩ a hA) | (refine AT ?_; clear hA; rintro _ w ⟨oN, cN, rfl, hH2⟩ a hA; clear hH; have hH := (hH2 _ (by (repeat constructor))).tail; clear hH2) | (refine S0T ?_; clear hH; rintro _ w hH) )) | ((first | refine CT ?_ | (refine DT ?_ ?_ <;> intro hc <;> try (exfalso; omega))) <;> repeat' refine CT ?_) | (first | (refine DSK ?_; clear hA a; intro a hA) | (first | (refine DLT ?_; clear hA hH; rintro _ w ⟨oN, rfl, hH⟩; refine ⟨STT, ?_⟩; intro a hA) | (refine DAT ?_; clear hA; rintro _ w ⟨oN, cN, rfl, hH2⟩; clear hH; have hH := (hH2 _ (by (repeat constructor))).tail; clear hH2; refine ⟨STT, ?_⟩; intro a hA))) )
    (apply st_op0 hA rfl rfl; apply op_store_fld (cs' := [.int .i64 t.k, .int .i64 t.n, .slice t.ob t.bs.length t.cb, .slice o1 t.q.length c1, .slice t.ot t.ts.length t.ct, .slice t.oe t.es.length t.ce]); rfl; rfl; rfl; exact hH; (repeat constructor); clear hH; rintro _ w hH)
    repeat' (first | (first | (refine GT ?_ ?_ <;> intro hg <;> clear hA a <;> intro a hA <;> (first | exact FA | replace hg := of_decide_eq_true hg | replace hg := of_decide_eq_false hg | skip)) | (refine QT ?_; clear hA a; intro a hA) | (first | (refine BT ?_; clear hA hH; rintro _ w ⟨bN, rfl, hH⟩ a hA) | (refine LT ?_; clear hA hH; rintro _ w ⟨oN, rfl, hH⟩ a hA) | (refine AT ?_; clear hA; rintro _ w ⟨oN, cN, rfl, hH2⟩ a hA; clear hH; have hH := (hH2 _ (by (repeat constructor))).tail; clear hH2) | (refine S0T ?_; clear hH; rintro _ w hH) )) | ((first | refine CT ?_ | (refine DT ?_ ?_ <;> intro hc <;> try (exfalso; omega))) <;> repeat' refine CT ?_) | (first | (refine DSK ?_; clear hA a; intro a hA) | (first | (refine DLT ?_; clear hA hH; rintro _ w ⟨oN, rfl, hH⟩; refine ⟨STT, ?_⟩; intro a hA) | (refine DAT ?_; clear hA; rintro _ w ⟨oN, cN, rfl, hH2⟩; clear hH; have hH := (hH2 _ (by (repeat constructor))).tail; clear hH2; refine ⟨STT, ?_⟩; intro a hA))) )
    (refine st_op hA rfl rfl (by decide) (op_call rfl rfl rfl (cloneB_spec _ t.ob t.bs.length t.cb (flat encB t.bs) ((hR _ (hH.frz (by exact MEMT))).b.1) (flat_length encB_len t.bs) (encB_one _) hspB (by omega))) ?_; clear hA; rintro _ w ⟨o2, c2, rfl, hj⟩ a hA; replace hH := hH.join hj; clear hj)
    repeat' (first | (first | (refine GT ?_ ?_ <;> intro hg <;> clear hA a <;> intro a hA <;> (first | exact FA | replace hg := of_decide_eq_true hg | replace hg := of_decide_eq_false hg | skip)) | (refine QT ?_; clear hA a; intro a hA) | (first | (refine BT ?_; clear hA hH; rintro _ w ⟨bN, rfl, hH⟩ a hA) | (refine LT ?_; clear hA hH; rintro _ w ⟨oN, rfl, hH⟩ a hA) | (refine AT ?_; clear hA; rintro _ w ⟨oN, cN, rfl, hH2⟩ a hA; clear hH; have hH := (hH2 _ (by (repeat constructor))).tail; clear hH2) | (refine S0T ?_; clear hH; rintro _ w hH) )) | ((first | refine CT ?_ | (refine DT ?_ ?_ <;> intro hc <;> try (exfalso; omega))) <;> repeat' refine CT ?_) | (first | (refine DSK ?_; clear hA a; intro a hA) | (first | (refine DLT ?_; clear hA hH; rintro _ w ⟨oN, rfl, hH⟩; refine ⟨STT, ?_⟩; intro a hA) | (refine DAT ?_; clear hA; rintro _ w ⟨oN, cN, rfl, hH2⟩; clear hH; have hH := (hH2 _ (by (repeat constructor))).tail; clear hH2; refine ⟨STT, ?_⟩; intro a hA))) )
    (apply st_op0 hA rfl rfl; apply op_store_fld (cs' := [.int .i64 t.k, .int .i64 t.n, .slice o2 t.bs.length c2, .slice o1 t.q.length c1, .slice t.ot t.ts.length t.ct, .slice t.oe t.es.length t.ce]); rfl; rfl; rfl; exact hH; (repeat constructor); clear hH; rintro _ w hH)
    repeat' (first | (first | (refine GT ?_ ?_ <;> intro hg <;> clear hA a <;> intro a hA <;> (first | exact FA | replace hg := of_decide_eq_true hg | replace hg := of_decide_eq_false hg | skip)) | (refine QT ?_; clear hA a; intro a hA) | (first | (refine BT ?_; clear hA hH; rintro _ w ⟨bN, rfl, hH⟩ a hA) | (refine LT ?_; clear hA hH; rintro _ w ⟨oN, rfl, hH⟩ a hA) | (refine AT ?_; clear hA; rintro _ w ⟨oN, cN, rfl, hH2⟩ a hA; clear hH; have hH := (hH2 _ (by (repeat constructor))).tail; clear hH2) | (refine S0T ?_; clear hH; rintro _ w hH) )) | ((first | refine CT ?_ | (refine DT ?_ ?_ <;> intro hc <;> try (exfalso; omega))) <;> repeat' refine CT ?_) | (first | (refine DSK ?_; clear hA a; intro a hA) | (first | (refine DLT ?_; clear hA hH; rintro _ w ⟨oN, rfl, hH⟩; refine ⟨STT, ?_⟩; intro a hA) | (refine DAT ?_; clear hA; rintro _ w ⟨oN, cN, rfl, hH2⟩; clear hH; have hH := (hH2 _ (by (repeat constructor))).tail; clear hH2; refine ⟨STT, ?_⟩; intro a hA))) )
    replace hH := hH.er 4
    refine wp_lpk (S := Nat) (fun i a w => ∃ (bd : List MB), (i ≤ t.bs.length ∧ bd.length = i ∧ bd.map MB.un = (t.bs.take i).map MB.un) ∧ HS w0 noM (Go.Fw.cb b1 29 [.int .i64 t.k, .int .i64 t.n, .slice o2 t.bs.length c2, .slice o1 t.q.length c1, .slice t.ot t.ts.length t.ct, .slice t.oe t.es.length t.ce] :: own 72 2 o2 t.bs.length c2 (flat encB (bd ++ t.bs.drop i)) :: all (bd.map itB) :: own 75 12 t.ot t.ts.length t.ct (flat encR t.ts) :: own 29 6 t.oe t.es.length t.ce (flat encT t.es) :: all (itTs t.ts) :: all (itTs t.es) :: own 9 1 o1 t.q.length c1 (flat encX t.q) :: Go.Fw.cb b2 29 [.int .i64 0, .int .i64 0, .slice none 0 0, .slice none 0 0, .slice none 0 0, .slice none 0 0] :: frz w0 K :: H) w ∧ Sl 67 [(1, .pointer (some (bat b1 0))), (2, .pointer (some (bat b2 0))), (18, .slice o2 t.bs.length c2), (19, .int .i64 t.bs.length), (20, .int .i64 i)] a)
      (fun i => t.bs.length - i)
      (fun a w => ∃ (bd : List MB) (i : Nat), (i = t.bs.length ∧ bd.length = i ∧ bd.map MB.un = (t.bs.take i).map MB.un) ∧ HS w0 noM (Go.Fw.cb b1 29 [.int .i64 t.k, .int .i64 t.n, .slice o2 t.bs.length c2, .slice o1 t.q.length c1, .slice t.ot t.ts.length t.ct, .slice t.oe t.es.length t.ce] :: own 72 2 o2 t.bs.length c2 (flat encB (bd ++ t.bs.drop i)) :: all (bd.map itB) :: own 75 12 t.ot t.ts.length t.ct (flat encR t.ts) :: own 29 6 t.oe t.es.length t.ce (flat encT t.es) :: all (itTs t.ts) :: all (itTs t.es) :: own 9 1 o1 t.q.length c1 (flat encX t.q) :: Go.Fw.cb b2 29 [.int .i64 0, .int .i64 0, .slice none 0 0, .slice none 0 0, .slice none 0 0, .slice none 0 0] :: frz w0 K :: H) w ∧ Sl 67 [(1, .pointer (some (bat b1 0))), (2, .pointer (some (bat b2 0)))] a) 0
      ⟨[], ⟨Nat.zero_le _, rfl, by rw [List.take_zero]⟩, hH.nil_all.perm (by (repeat (first | exact List.Perm.refl _ | exact List.Perm.nil | refine perm_pick 0 rfl ?_ | refine perm_pick 1 rfl ?_ | refine perm_pick 2 rfl ?_ | refine perm_pick 3 rfl ?_ | refine perm_pick 4 rfl ?_ | refine perm_pick 5 rfl ?_ | refine perm_pick 6 rfl ?_ | refine perm_pick 7 rfl ?_ | refine perm_pick 8 rfl ?_ | refine perm_pick 9 rfl ?_ | refine perm_pick 10 rfl ?_ | refine perm_pick 11 rfl ?_))), (hA.sub (by (repeat (first | exact trivial | refine ⟨rfl, ?_⟩))))⟩ ?_ ?_
    · clear hA hH
      --[[
      rintro i a w ⟨bd, ⟨hi, hbl, hbu⟩, hH, hA⟩
      by_cases hlt : i < t.bs.length
      rotate_left
      · repeat' (first | (first | (refine GT ?_ ?_ <;> intro hg <;> clear hA a <;> intro a hA <;> (first | exact FA | replace hg := of_decide_eq_true hg | replace hg := of_decide_eq_false hg | skip)) | (refine QT ?_; clear hA a; intro a hA) | (first | (refine BT ?_; clear hA hH; rintro _ w ⟨bN, rfl, hH⟩ a hA) | (refine LT ?_; clear hA hH; rintro _ w ⟨oN, rfl, hH⟩ a hA) | (refine AT ?_; clear hA; rintro _ w ⟨oN, cN, rfl, hH2⟩ a hA; clear hH; have hH := (hH2 _ (by (repeat constructor))).tail; clear hH2) | (refine S0T ?_; clear hH; rintro _ w hH) )) | ((first | refine CT ?_ | (refine DT ?_ ?_ <;> intro hc <;> try (exfalso; omega))) <;> repeat' refine CT ?_) | (first | (refine DSK ?_; clear hA a; intro a hA) | (first | (refine DLT ?_; clear hA hH; rintro _ w ⟨oN, rfl, hH⟩; refine ⟨STT, ?_⟩; intro a hA) | (refine DAT ?_; clear hA; rintro _ w ⟨oN, cN, rfl, hH2⟩; clear hH; have hH := (hH2 _ (by (repeat constructor))).tail; clear hH2; refine ⟨STT, ?_⟩; intro a hA))) )
        exact ⟨bd, i, ⟨by omega, hbl, hbu⟩, hH, (hA.sub (by (repeat (first | exact trivial | refine ⟨rfl, ?_⟩))))⟩
      obtain ⟨x, hx⟩ : ∃ x, t.bs[i]? = some x := ⟨_, List.getElem?_eq_getElem hlt⟩
      have hxm := List.mem_of_getElem? hx
      have hqx := hts.2.2.1 x hxm
      obtain ⟨hwi, hws⟩ := mid_at hbl hx
      have hvs := flat_all encB_len hwi
      have hlen : (flat encB (bd ++ t.bs.drop i)).length = t.bs.length * 2 := by rw [flat_length encB_len, mid_len hbl hi]
      have hRx : ∀ w, K w → RdQ w x.o x.c x.q := fun w h => (hR w h).b.2.2.2 x hxm
      have hspX : x.o = none → x.q.length = 0 := fun h0 => by
        rcases Nat.eq_zero_or_pos x.q.length with h1 | h1
        · exact h1
        · obtain ⟨b, off, h2⟩ := ((hRx _ (hH.frz (by exact MEMT))).1).sp (sz := 1) (flat_length encX_len x.q) (by omega) h1
          rw [h0] at h2; cases h2
      repeat' (first | (first | (refine GT ?_ ?_ <;> intro hg <;> clear hA a <;> intro a hA <;> (first | exact FA | replace hg := of_decide_eq_true hg | replace hg := of_decide_eq_false hg | skip)) | ((first | apply st_ex hA hH rfl rfl (by decide) | apply dr_ex hA rfl rfl rfl (by decide) | apply dr_exp hA rfl rfl rfl (by decide) | apply dr_ex3 hA hH rfl rfl rfl (by decide)); (first | (apply ex_load_st (vs := encB x); rfl; rfl; apply cls_own; exact MEMT; exact hvs)); clear hA a; intro a hA) | (refine QT ?_; clear hA a; intro a hA) | (first | (refine BT ?_; clear hA hH; rintro _ w ⟨bN, rfl, hH⟩ a hA) | (refine LT ?_; clear hA hH; rintro _ w ⟨oN, rfl, hH⟩ a hA) | (refine AT ?_; clear hA; rintro _ w ⟨oN, cN, rfl, hH2⟩ a hA; clear hH; have hH := (hH2 _ (by (repeat constructor))).tail; clear hH2) | (refine S0T ?_; clear hH; rintro _ w hH) | (apply st_op0 hA rfl rfl; apply op_store_agg (vs := encB x); rfl; rfl; exact hH; (repeat constructor); (repeat rfl); clear hH; rintro _ w hH))) | ((first | refine CT ?_ | (refine DT ?_ ?_ <;> intro hc <;> try (exfalso; omega))) <;> repeat' refine CT ?_) | (first | (refine DSK ?_; clear hA a; intro a hA) | (first | (refine DLT ?_; clear hA hH; rintro _ w ⟨oN, rfl, hH⟩; refine ⟨STT, ?_⟩; intro a hA) | (refine DAT ?_; clear hA; rintro _ w ⟨oN, cN, rfl, hH2⟩; clear hH; have hH := (hH2 _ (by (repeat constructor))).tail; clear hH2; refine ⟨STT, ?_⟩; intro a hA))) )
      obtain ⟨b4, hb4⟩ : ∃ b, b = bN := ⟨_, rfl⟩
      rw [← hb4] at hA hH
      clear hb4 bN
      (refine wp_draw_HS (H := [Go.Fw.cb b1 29 [.int .i64 t.k, .int .i64 t.n, .slice o2 t.bs.length c2, .slice o1 t.q.length c1, .slice t.ot t.ts.length t.ct, .slice t.oe t.es.length t.ce], Go.Fw.cb b4 72 (encB x)]) [(0, 1), (1, 1), (2, 1), (3, 1), (4, 1), (5, 0), (6, 1), (7, 1), (8, 0)] mixed (by decide +kernel) ((hH.two 1 0 rfl rfl)) ?_; replace hH := hH.drew)
      repeat' (first | (first | (refine GT ?_ ?_ <;> intro hg <;> clear hA a <;> intro a hA <;> (first | exact FA | replace hg := of_decide_eq_true hg | replace hg := of_decide_eq_false hg | skip)) | (refine QT ?_; clear hA a; intro a hA) | (first | (refine BT ?_; clear hA hH; rintro _ w ⟨bN, rfl, hH⟩ a hA) | (refine LT ?_; clear hA hH; rintro _ w ⟨oN, rfl, hH⟩ a hA) | (refine AT ?_; clear hA; rintro _ w ⟨oN, cN, rfl, hH2⟩ a hA; clear hH; have hH := (hH2 _ (by (repeat constructor))).tail; clear hH2) | (refine S0T ?_; clear hH; rintro _ w hH) )) | ((first | refine CT ?_ | (refine DT ?_ ?_ <;> intro hc <;> try (exfalso; omega))) <;> repeat' refine CT ?_) | (first | (refine DSK ?_; clear hA a; intro a hA) | (first | (refine DLT ?_; clear hA hH; rintro _ w ⟨oN, rfl, hH⟩; refine ⟨STT, ?_⟩; intro a hA) | (refine DAT ?_; clear hA; rintro _ w ⟨oN, cN, rfl, hH2⟩; clear hH; have hH := (hH2 _ (by (repeat constructor))).tail; clear hH2; refine ⟨STT, ?_⟩; intro a hA))) )
      (refine dr_op hA rfl rfl rfl (by decide) (op_call rfl rfl rfl (cloneX_spec _ x.o x.q.length x.c (flat encX x.q) ((hRx _ (hH.frz (by exact MEMT))).1) (flat_length encX_len x.q) (encX_one _) hspX (by omega))) ?_; clear hA; rintro _ w ⟨o3, c3, rfl, hj⟩; refine ⟨by replace hH := hH.join hj; exact hH.two 2 1 rfl rfl, ?_⟩; intro a hA)
      replace hH := hH.join hj
      clear hj
      repeat' (first | (first | (refine GT ?_ ?_ <;> intro hg <;> clear hA a <;> intro a hA <;> (first | exact FA | replace hg := of_decide_eq_true hg | replace hg := of_decide_eq_false hg | skip)) | (refine QT ?_; clear hA a; intro a hA) | (first | (refine BT ?_; clear hA hH; rintro _ w ⟨bN, rfl, hH⟩ a hA) | (refine LT ?_; clear hA hH; rintro _ w ⟨oN, rfl, hH⟩ a hA) | (refine AT ?_; clear hA; rintro _ w ⟨oN, cN, rfl, hH2⟩ a hA; clear hH; have hH := (hH2 _ (by (repeat constructor))).tail; clear hH2) | (refine S0T ?_; clear hH; rintro _ w hH) )) | ((first | refine CT ?_ | (refine DT ?_ ?_ <;> intro hc <;> try (exfalso; omega))) <;> repeat' refine CT ?_) | (first | (refine DSK ?_; clear hA a; intro a hA) | (first | (refine DLT ?_; clear hA hH; rintro _ w ⟨oN, rfl, hH⟩; refine ⟨STT, ?_⟩; intro a hA) | (refine DAT ?_; clear hA; rintro _ w ⟨oN, cN, rfl, hH2⟩; clear hH; have hH := (hH2 _ (by (repeat constructor))).tail; clear hH2; refine ⟨STT, ?_⟩; intro a hA))) )
      (apply dr_op0 hA rfl rfl rfl; apply op_store_own (vs := [.slice o3 x.q.length c3]); rfl; rfl; exact hH; (repeat constructor); (rw [hlen]; omega); exact flat_put encB_len (off := 1) (y := ⟨x.v, o3, c3, x.q⟩) hwi rfl (Nat.le_refl 2); clear hH; rintro _ w hH; refine ⟨hH.two 2 1 rfl rfl, ?_⟩)
      rw [hws] at hH
      repeat' (first | (first | (refine GT ?_ ?_ <;> intro hg <;> clear hA a <;> intro a hA <;> (first | exact FA | replace hg := of_decide_eq_true hg | replace hg := of_decide_eq_false hg | skip)) | (refine QT ?_; clear hA a; intro a hA) | (first | (refine BT ?_; clear hA hH; rintro _ w ⟨bN, rfl, hH⟩ a hA) | (refine LT ?_; clear hA hH; rintro _ w ⟨oN, rfl, hH⟩ a hA) | (refine AT ?_; clear hA; rintro _ w ⟨oN, cN, rfl, hH2⟩ a hA; clear hH; have hH := (hH2 _ (by (repeat constructor))).tail; clear hH2) | (refine S0T ?_; clear hH; rintro _ w hH) )) | ((first | refine CT ?_ | (refine DT ?_ ?_ <;> intro hc <;> try (exfalso; omega))) <;> repeat' refine CT ?_) | (first | (refine DSK ?_; clear hA a; intro a hA) | (first | (refine DLT ?_; clear hA hH; rintro _ w ⟨oN, rfl, hH⟩; refine ⟨STT, ?_⟩; intro a hA) | (refine DAT ?_; clear hA; rintro _ w ⟨oN, cN, rfl, hH2⟩; clear hH; have hH := (hH2 _ (by (repeat constructor))).tail; clear hH2; refine ⟨STT, ?_⟩; intro a hA))) )
      refine ⟨i + 1, ⟨bd ++ [⟨x.v, o3, c3, x.q⟩], ⟨hlt, by rw [len_snoc, hbl], by rw [take_next hx, List.map_append, List.map_append, hbu]; rfl⟩, ?_, (hA.sub (by (repeat (first | exact trivial | refine ⟨rfl, ?_⟩))))⟩, by omega⟩
      rw [List.map_append]
      exact ((((hH.er 1).pk 3 rfl).pk 1 rfl).pushA).perm (by (repeat (first | exact List.Perm.refl _ | exact List.Perm.nil | refine perm_pick 0 rfl ?_ | refine perm_pick 1 rfl ?_ | refine perm_pick 2 rfl ?_ | refine perm_pick 3 rfl ?_ | refine perm_pick 4 rfl ?_ | refine perm_pick 5 rfl ?_ | refine perm_pick 6 rfl ?_ | refine perm_pick 7 rfl ?_ | refine perm_pick 8 rfl ?_ | refine perm_pick 9 rfl ?_ | refine perm_pick 10 rfl ?_ | refine perm_pick 11 rfl ?_)))
    --]]
    clear hA hH
    rintro a w ⟨bd, i, ⟨hi, hbl, hbu⟩, hH, hA⟩
    subst hi
    rw [List.drop_length, List.append_nil, ← hbl] at hH
    rw [List.take_length] at hbu
    repeat' (first | (first | (refine GT ?_ ?_ <;> intro hg <;> clear hA a <;> intro a hA <;> (first | exact FA | replace hg := of_decide_eq_true hg | replace hg := of_decide_eq_false hg | skip)) | (refine QT ?_; clear hA a; intro a hA) | (first | (refine BT ?_; clear hA hH; rintro _ w ⟨bN, rfl, hH⟩ a hA) | (refine LT ?_; clear hA hH; rintro _ w ⟨oN, rfl, hH⟩ a hA) | (refine AT ?_; clear hA; rintro _ w ⟨oN, cN, rfl, hH2⟩ a hA; clear hH; have hH := (hH2 _ (by (repeat constructor))).tail; clear hH2) | (refine S0T ?_; clear hH; rintro _ w hH) )) | ((first | refine CT ?_ | (refine DT ?_ ?_ <;> intro hc <;> try (exfalso; omega))) <;> repeat' refine CT ?_) | (first | (refine DSK ?_; clear hA a; intro a hA) | (first | (refine DLT ?_; clear hA hH; rintro _ w ⟨oN, rfl, hH⟩; refine ⟨STT, ?_⟩; intro a hA) | (refine DAT ?_; clear hA; rintro _ w ⟨oN, cN, rfl, hH2⟩; clear hH; have hH := (hH2 _ (by (repeat constructor))).tail; clear hH2; refine ⟨STT, ?_⟩; intro a hA))) )
    refine wp_lpk (S := Nat) (fun i a w => ∃ (td : List MT), (i ≤ t.ts.length ∧ td.length = i ∧ td.map MT.un = (t.ts.take i).map MT.un) ∧ HS w0 noM (Go.Fw.cb b1 29 [.int .i64 t.k, .int .i64 t.n, .slice o2 bd.length c2, .slice o1 t.q.length c1, .slice t.ot t.ts.length t.ct, .slice t.oe t.es.length t.ce] :: own 75 12 t.ot t.ts.length t.ct (flat encR (td ++ t.ts.drop i)) :: all (itFs td) :: all (itTs (t.ts.drop i)) :: own 29 6 t.oe t.es.length t.ce (flat encT t.es) :: all (itTs t.es) :: own 72 2 o2 bd.length c2 (flat encB bd) :: all (bd.map itB) :: own 9 1 o1 t.q.length c1 (flat encX t.q) :: Go.Fw.cb b2 29 [.int .i64 0, .int .i64 0, .slice none 0 0, .slice none 0 0, .slice none 0 0, .slice none 0 0] :: frz w0 K :: H) w ∧ Sl 67 [(1, .pointer (some (bat b1 0))), (2, .pointer (some (bat b2 0))), (35, .slice t.ot t.ts.length t.ct), (36, .int .i64 t.ts.length), (37, .int .i64 i)] a)
      (fun i => t.ts.length - i)
      (fun a w => ∃ (td : List MT) (i : Nat), (i = t.ts.length ∧ td.length = i ∧ td.map MT.un = (t.ts.take i).map MT.un) ∧ HS w0 noM (Go.Fw.cb b1 29 [.int .i64 t.k, .int .i64 t.n, .slice o2 bd.length c2, .slice o1 t.q.length c1, .slice t.ot t.ts.length t.ct, .slice t.oe t.es.length t.ce] :: own 75 12 t.ot t.ts.length t.ct (flat encR (td ++ t.ts.drop i)) :: all (itFs td) :: all (itTs (t.ts.drop i)) :: own 29 6 t.oe t.es.length t.ce (flat encT t.es) :: all (itTs t.es) :: own 72 2 o2 bd.length c2 (flat encB bd) :: all (bd.map itB) :: own 9 1 o1 t.q.length c1 (flat encX t.q) :: Go.Fw.cb b2 29 [.int .i64 0, .int .i64 0, .slice none 0 0, .slice none 0 0, .slice none 0 0, .slice none 0 0] :: frz w0 K :: H) w ∧ Sl 67 [(1, .pointer (some (bat b1 0))), (2, .pointer (some (bat b2 0)))] a) 0
      ⟨[], ⟨Nat.zero_le _, rfl, by rw [List.take_zero]⟩, by rw [itFs_nil]; exact hH.nil_all.perm (by (repeat (first | exact List.Perm.refl _ | exact List.Perm.nil | refine perm_pick 0 rfl ?_ | refine perm_pick 1 rfl ?_ | refine perm_pick 2 rfl ?_ | refine perm_pick 3 rfl ?_ | refine perm_pick 4 rfl ?_ | refine perm_pick 5 rfl ?_ | refine perm_pick 6 rfl ?_ | refine perm_pick 7 rfl ?_ | refine perm_pick 8 rfl ?_ | refine perm_pick 9 rfl ?_ | refine perm_pick 10 rfl ?_ | refine perm_pick 11 rfl ?_))), (hA.sub (by (repeat (first | exact trivial | refine ⟨rfl, ?_⟩))))⟩ ?_ ?_
    · clear hA hH
      rintro i a w ⟨td, ⟨hi, htl, htu⟩, hH, hA⟩
      by_cases hlt : i < t.ts.length
      rotate_left
      · repeat' (first | (first | (refine GT ?_ ?_ <;> intro hg <;> clear hA a <;> intro a hA <;> (first | exact FA | replace hg := of_decide_eq_true hg | replace hg := of_decide_eq_false hg | skip)) | (refine QT ?_; clear hA a; intro a hA) | (first | (refine BT ?_; clear hA hH; rintro _ w ⟨bN, rfl, hH⟩ a hA) | (refine LT ?_; clear hA hH; rintro _ w ⟨oN, rfl, hH⟩ a hA) | (refine AT ?_; clear hA; rintro _ w ⟨oN, cN, rfl, hH2⟩ a hA; clear hH; have hH := (hH2 _ (by (repeat constructor))).tail; clear hH2) | (refine S0T ?_; clear hH; rintro _ w hH) )) | ((first | refine CT ?_ | (refine DT ?_ ?_ <;> intro hc <;> try (exfalso; omega))) <;> repeat' refine CT ?_) | (first | (refine DSK ?_; clear hA a; intro a hA) | (first | (refine DLT ?_; clear hA hH; rintro _ w ⟨oN, rfl, hH⟩; refine ⟨STT, ?_⟩; intro a hA) | (refine DAT ?_; clear hA; rintro _ w ⟨oN, cN, rfl, hH2⟩; clear hH; have hH := (hH2 _ (by (repeat constructor))).tail; clear hH2; refine ⟨STT, ?_⟩; intro a hA))) )
        exact ⟨td, i, ⟨by omega, htl, htu⟩, hH, (hA.sub (by (repeat (first | exact trivial | refine ⟨rfl, ?_⟩))))⟩
      obtain ⟨s, hs⟩ : ∃ s, t.ts[i]? = some s := ⟨_, List.getElem?_eq_getElem hlt⟩
      have hsm := List.mem_of_getElem? hs
      obtain ⟨hwi, hws⟩ := mid_at htl hs
      have hvs := flat_all encR_len hwi
      have hlen : (flat encR (td ++ t.ts.drop i)).length = t.ts.length * 12 := by rw [flat_length encR_len, mid_len htl hi]
      have hdr : t.ts.drop i = s :: t.ts.drop (i + 1) := by
        obtain ⟨h1, h2⟩ := List.getElem?_eq_some_iff.1 hs
        rw [List.drop_eq_getElem_cons h1, h2]
      rw [show itTs (t.ts.drop i) = all (itT s) :: itTs (t.ts.drop (i + 1)) by rw [hdr, itTs_cons]] at hH
      repeat' (first | (first | (refine GT ?_ ?_ <;> intro hg <;> clear hA a <;> intro a hA <;> (first | exact FA | replace hg := of_decide_eq_true hg | replace hg := of_decide_eq_false hg | skip)) | ((first | apply st_ex hA hH rfl rfl (by decide) | apply dr_ex hA rfl rfl rfl (by decide) | apply dr_exp hA rfl rfl rfl (by decide) | apply dr_ex3 hA hH rfl rfl rfl (by decide)); (first | (apply ex_load_st (vs := encR s); rfl; rfl; apply cls_own; exact MEMT; exact hvs)); clear hA a; intro a hA) | (refine QT ?_; clear hA a; intro a hA) | (first | (refine BT ?_; clear hA hH; rintro _ w ⟨bN, rfl, hH⟩ a hA) | (refine LT ?_; clear hA hH; rintro _ w ⟨oN, rfl, hH⟩ a hA) | (refine AT ?_; clear hA; rintro _ w ⟨oN, cN, rfl, hH2⟩ a hA; clear hH; have hH := (hH2 _ (by (repeat constructor))).tail; clear hH2) | (refine S0T ?_; clear hH; rintro _ w hH) | (apply st_op0 hA rfl rfl; apply op_store_agg (vs := encR s); rfl; rfl; exact hH; (repeat constructor); (repeat rfl); clear hH; rintro _ w hH))) | ((first | refine CT ?_ | (refine DT ?_ ?_ <;> intro hc <;> try (exfalso; omega))) <;> repeat' refine CT ?_) | (first | (refine DSK ?_; clear hA a; intro a hA) | (first | (refine DLT ?_; clear hA hH; rintro _ w ⟨oN, rfl, hH⟩; refine ⟨STT, ?_⟩; intro a hA) | (refine DAT ?_; clear hA; rintro _ w ⟨oN, cN, rfl, hH2⟩; clear hH; have hH := (hH2 _ (by (repeat constructor))).tail; clear hH2; refine ⟨STT, ?_⟩; intro a hA))) )
      obtain ⟨b6, hb6⟩ : ∃ b, b = bN := ⟨_, rfl⟩
      rw [← hb6] at hA hH
      clear hb6 bN
      replace hH := (hH.pk 4 rfl).openAt (i := 0) rfl
      (refine wp_draw_HS (H := [Go.Fw.cb b1 29 [.int .i64 t.k, .int .i64 t.n, .slice o2 bd.length c2, .slice o1 t.q.length c1, .slice t.ot t.ts.length t.ct, .slice t.oe t.es.length t.ce], Go.Fw.cb b6 75 (encR s)]) [(0, 1), (1, 1), (2, 1), (3, 1), (4, 1), (5, 0), (6, 1), (7, 1), (8, 0)] mixed (by decide +kernel) ((hH.two 3 2 rfl rfl)) ?_; replace hH := hH.drew)
      repeat' (first | (first | (refine GT ?_ ?_ <;> intro hg <;> clear hA a <;> intro a hA <;> (first | exact FA | replace hg := of_decide_eq_true hg | replace hg := of_decide_eq_false hg | skip)) | ((first | apply st_ex hA hH rfl rfl (by decide) | apply dr_ex hA rfl rfl rfl (by decide) | apply dr_exp hA rfl rfl rfl (by decide) | apply dr_ex3 hA hH rfl rfl rfl (by decide)); (first | (apply ex_load_st (vs := encT s); rfl; rfl; exact cls_box MEMT (encR_tree s))); clear hA a; intro a hA) | (refine QT ?_; clear hA a; intro a hA) | (first | (refine BT ?_; clear hA hH; rintro _ w ⟨bN, rfl, hH⟩ a hA) | (refine LT ?_; clear hA hH; rintro _ w ⟨oN, rfl, hH⟩ a hA) | (refine AT ?_; clear hA; rintro _ w ⟨oN, cN, rfl, hH2⟩ a hA; clear hH; have hH := (hH2 _ (by (repeat constructor))).tail; clear hH2) | (refine S0T ?_; clear hH; rintro _ w hH) )) | ((first | refine CT ?_ | (refine DT ?_ ?_ <;> intro hc <;> try (exfalso; omega))) <;> repeat' refine CT ?_) | (first | (refine DSK ?_; clear hA a; intro a hA) | (first | (refine DLT ?_; clear hA hH; rintro _ w ⟨oN, rfl, hH⟩; refine ⟨STT, ?_⟩; intro a hA) | (refine DAT ?_; clear hA; rintro _ w ⟨oN, cN, rfl, hH2⟩; clear hH; have hH := (hH2 _ (by (repeat constructor))).tail; clear hH2; refine ⟨STT, ?_⟩; intro a hA))) )
      (refine dr_op hA rfl rfl rfl (by decide) (op_call rfl rfl rfl (own_spec z s (by have := mt_lt hsm; omega) w0 _ _ K ((hH.pk 12 rfl).pk 1 rfl) (fun w hw => (hR w hw).t s hsm) (hts.2.2.2.1 s hsm))) ?_; clear hA; rintro _ w ⟨s', rfl, hsh, hsu, hH⟩; refine ⟨hH.two 4 3 rfl rfl, ?_⟩; intro a hA)
      repeat' (first | (first | (refine GT ?_ ?_ <;> intro hg <;> clear hA a <;> intro a hA <;> (first | exact FA | replace hg := of_decide_eq_true hg | replace hg := of_decide_eq_false hg | skip)) | (refine QT ?_; clear hA a; intro a hA) | (first | (refine BT ?_; clear hA hH; rintro _ w ⟨bN, rfl, hH⟩ a hA) | (refine LT ?_; clear hA hH; rintro _ w ⟨oN, rfl, hH⟩ a hA) | (refine AT ?_; clear hA; rintro _ w ⟨oN, cN, rfl, hH2⟩ a hA; clear hH; have hH := (hH2 _ (by (repeat constructor))).tail; clear hH2) | (refine S0T ?_; clear hH; rintro _ w hH) )) | ((first | refine CT ?_ | (refine DT ?_ ?_ <;> intro hc <;> try (exfalso; omega))) <;> repeat' refine CT ?_) | (first | (refine DSK ?_; clear hA a; intro a hA) | (first | (refine DLT ?_; clear hA hH; rintro _ w ⟨oN, rfl, hH⟩; refine ⟨STT, ?_⟩; intro a hA) | (refine DAT ?_; clear hA; rintro _ w ⟨oN, cN, rfl, hH2⟩; clear hH; have hH := (hH2 _ (by (repeat constructor))).tail; clear hH2; refine ⟨STT, ?_⟩; intro a hA))) )
      (apply dr_op0 hA rfl rfl rfl; apply op_store_own (vs := encT s'); rfl; rfl; exact hH; (repeat constructor); (rw [hlen]; omega); exact flat_put encR_len (off := 6) (y := s') hwi (put_R2 hsh) (Nat.le_refl 12); clear hH; rintro _ w hH; refine ⟨hH.two 4 3 rfl rfl, ?_⟩)
      rw [hws] at hH
      repeat' (first | (first | (refine GT ?_ ?_ <;> intro hg <;> clear hA a <;> intro a hA <;> (first | exact FA | replace hg := of_decide_eq_true hg | replace hg := of_decide_eq_false hg | skip)) | (refine QT ?_; clear hA a; intro a hA) | (first | (refine BT ?_; clear hA hH; rintro _ w ⟨bN, rfl, hH⟩ a hA) | (refine LT ?_; clear hA hH; rintro _ w ⟨oN, rfl, hH⟩ a hA) | (refine AT ?_; clear hA; rintro _ w ⟨oN, cN, rfl, hH2⟩ a hA; clear hH; have hH := (hH2 _ (by (repeat constructor))).tail; clear hH2) | (refine S0T ?_; clear hH; rintro _ w hH) )) | ((first | refine CT ?_ | (refine DT ?_ ?_ <;> intro hc <;> try (exfalso; omega))) <;> repeat' refine CT ?_) | (first | (refine DSK ?_; clear hA a; intro a hA) | (first | (refine DLT ?_; clear hA hH; rintro _ w ⟨oN, rfl, hH⟩; refine ⟨STT, ?_⟩; intro a hA) | (refine DAT ?_; clear hA; rintro _ w ⟨oN, cN, rfl, hH2⟩; clear hH; have hH := (hH2 _ (by (repeat constructor))).tail; clear hH2; refine ⟨STT, ?_⟩; intro a hA))) )
      refine ⟨i + 1, ⟨td ++ [s'], ⟨hlt, by rw [len_snoc, htl], by rw [take_next hs, List.map_append, List.map_append, htu]; show _ ++ [s'.un] = _; rw [hsu]; rfl⟩, ?_, (hA.sub (by (repeat (first | exact trivial | refine ⟨rfl, ?_⟩))))⟩, by omega⟩
      rw [itFs_snoc]
      exact ((((hH.er 3).pk 5 rfl).pk 1 rfl).pushA).perm (by (repeat (first | exact List.Perm.refl _ | exact List.Perm.nil | refine perm_pick 0 rfl ?_ | refine perm_pick 1 rfl ?_ | refine perm_pick 2 rfl ?_ | refine perm_pick 3 rfl ?_ | refine perm_pick 4 rfl ?_ | refine perm_pick 5 rfl ?_ | refine perm_pick 6 rfl ?_ | refine perm_pick 7 rfl ?_ | refine perm_pick 8 rfl ?_ | refine perm_pick 9 rfl ?_ | refine perm_pick 10 rfl ?_ | refine perm_pick 11 rfl ?_)))
    clear hA hH
    rintro a w ⟨td, i, ⟨hi, htl, htu⟩, hH, hA⟩
    subst hi
    rw [List.drop_length, List.append_nil, ← htl] at hH
    rw [List.take_length] at htu
    repeat' (first | (first | (refine GT ?_ ?_ <;> intro hg <;> clear hA a <;> intro a hA <;> (first | exact FA | replace hg := of_decide_eq_true hg | replace hg := of_decide_eq_false hg | skip)) | (refine QT ?_; clear hA a; intro a hA) | (first | (refine BT ?_; clear hA hH; rintro _ w ⟨bN, rfl, hH⟩ a hA) | (refine LT ?_; clear hA hH; rintro _ w ⟨oN, rfl, hH⟩ a hA) | (refine AT ?_; clear hA; rintro _ w ⟨oN, cN, rfl, hH2⟩ a hA; clear hH; have hH := (hH2 _ (by (repeat constructor))).tail; clear hH2) | (refine S0T ?_; clear hH; rintro _ w hH) )) | ((first | refine CT ?_ | (refine DT ?_ ?_ <;> intro hc <;> try (exfalso; omega))) <;> repeat' refine CT ?_) | (first | (refine DSK ?_; clear hA a; intro a hA) | (first | (refine DLT ?_; clear hA hH; rintro _ w ⟨oN, rfl, hH⟩; refine ⟨STT, ?_⟩; intro a hA) | (refine DAT ?_; clear hA; rintro _ w ⟨oN, cN, rfl, hH2⟩; clear hH; have hH := (hH2 _ (by (repeat constructor))).tail; clear hH2; refine ⟨STT, ?_⟩; intro a hA))) )
    refine wp_lpk (S := Nat) (fun i a w => ∃ (ed : List MT), (i ≤ t.es.length ∧ ed.length = i ∧ ed.map MT.un = (t.es.take i).map MT.un) ∧ HS w0 noM (Go.Fw.cb b1 29 [.int .i64 t.k, .int .i64 t.n, .slice o2 bd.length c2, .slice o1 t.q.length c1, .slice t.ot td.length t.ct, .slice t.oe t.es.length t.ce] :: own 29 6 t.oe t.es.length t.ce (flat encT (ed ++ t.es.drop i)) :: all (itFs ed) :: all (itTs (t.es.drop i)) :: own 75 12 t.ot td.length t.ct (flat encR td) :: all (itFs td) :: own 72 2 o2 bd.length c2 (flat encB bd) :: all (bd.map itB) :: own 9 1 o1 t.q.length c1 (flat encX t.q) :: Go.Fw.cb b2 29 [.int .i64 0, .int .i64 0, .slice none 0 0, .slice none 0 0, .slice none 0 0, .slice none 0 0] :: frz w0 K :: H) w ∧ Sl 67 [(1, .pointer (some (bat b1 0))), (2, .pointer (some (bat b2 0))), (52, .slice t.oe t.es.length t.ce), (53, .int .i64 t.es.length), (54, .int .i64 i)] a)
      (fun i => t.es.length - i)
      (fun a w => ∃ (ed : List MT) (i : Nat), (i = t.es.length ∧ ed.length = i ∧ ed.map MT.un = (t.es.take i).map MT.un) ∧ HS w0 noM (Go.Fw.cb b1 29 [.int .i64 t.k, .int .i64 t.n, .slice o2 bd.length c2, .slice o1 t.q.length c1, .slice t.ot td.length t.ct, .slice t.oe t.es.length t.ce] :: own 29 6 t.oe t.es.length t.ce (flat encT (ed ++ t.es.drop i)) :: all (itFs ed) :: all (itTs (t.es.drop i)) :: own 75 12 t.ot td.length t.ct (flat encR td) :: all (itFs td) :: own 72 2 o2 bd.length c2 (flat encB bd) :: all (bd.map itB) :: own 9 1 o1 t.q.length c1 (flat encX t.q) :: Go.Fw.cb b2 29 [.int .i64 0, .int .i64 0, .slice none 0 0, .slice none 0 0, .slice none 0 0, .slice none 0 0] :: frz w0 K :: H) w ∧ Sl 67 [(1, .pointer (some (bat b1 0))), (2, .pointer (some (bat b2 0)))] a) 0
      ⟨[], ⟨Nat.zero_le _, rfl, by rw [List.take_zero]⟩, by rw [itFs_nil]; exact (hH.er 3).nil_all.perm (by (repeat (first | exact List.Perm.refl _ | exact List.Perm.nil | refine perm_pick 0 rfl ?_ | refine perm_pick 1 rfl ?_ | refine perm_pick 2 rfl ?_ | refine perm_pick 3 rfl ?_ | refine perm_pick 4 rfl ?_ | refine perm_pick 5 rfl ?_ | refine perm_pick 6 rfl ?_ | refine perm_pick 7 rfl ?_ | refine perm_pick 8 rfl ?_ | refine perm_pick 9 rfl ?_ | refine perm_pick 10 rfl ?_ | refine perm_pick 11 rfl ?_))), (hA.sub (by (repeat (first | exact trivial | refine ⟨rfl, ?_⟩))))⟩ ?_ ?_
    · clear hA hH
      rintro i a w ⟨ed, ⟨hi, hel, heu⟩, hH, hA⟩
      by_cases hlt : i < t.es.length
      rotate_left
      · repeat' (first | (first | (refine GT ?_ ?_ <;> intro hg <;> clear hA a <;> intro a hA <;> (first | exact FA | replace hg := of_decide_eq_true hg | replace hg := of_decide_eq_false hg | skip)) | (refine QT ?_; clear hA a; intro a hA) | (first | (refine BT ?_; clear hA hH; rintro _ w ⟨bN, rfl, hH⟩ a hA) | (refine LT ?_; clear hA hH; rintro _ w ⟨oN, rfl, hH⟩ a hA) | (refine AT ?_; clear hA; rintro _ w ⟨oN, cN, rfl, hH2⟩ a hA; clear hH; have hH := (hH2 _ (by (repeat constructor))).tail; clear hH2) | (refine S0T ?_; clear hH; rintro _ w hH) )) | ((first | refine CT ?_ | (refine DT ?_ ?_ <;> intro hc <;> try (exfalso; omega))) <;> repeat' refine CT ?_) | (first | (refine DSK ?_; clear hA a; intro a hA) | (first | (refine DLT ?_; clear hA hH; rintro _ w ⟨oN, rfl, hH⟩; refine ⟨STT, ?_⟩; intro a hA) | (refine DAT ?_; clear hA; rintro _ w ⟨oN, cN, rfl, hH2⟩; clear hH; have hH := (hH2 _ (by (repeat constructor))).tail; clear hH2; refine ⟨STT, ?_⟩; intro a hA))) )
        exact ⟨ed, i, ⟨by omega, hel, heu⟩, hH, (hA.sub (by (repeat (first | exact trivial | refine ⟨rfl, ?_⟩))))⟩
      obtain ⟨s, hs⟩ : ∃ s, t.es[i]? = some s := ⟨_, List.getElem?_eq_getElem hlt⟩
      have hsm := List.mem_of_getElem? hs
      obtain ⟨hwi, hws⟩ := mid_at hel hs
      have hvs := flat_all encT_len hwi
      have hlen : (flat encT (ed ++ t.es.drop i)).length = t.es.length * 6 := by rw [flat_length encT_len, mid_len hel hi]
      have hdr : t.es.drop i = s :: t.es.drop (i + 1) := by
        obtain ⟨h1, h2⟩ := List.getElem?_eq_some_iff.1 hs
        rw [List.drop_eq_getElem_cons h1, h2]
      rw [show itTs (t.es.drop i) = all (itT s) :: itTs (t.es.drop (i + 1)) by rw [hdr, itTs_cons]] at hH
      repeat' (first | (first | (refine GT ?_ ?_ <;> intro hg <;> clear hA a <;> intro a hA <;> (first | exact FA | replace hg := of_decide_eq_true hg | replace hg := of_decide_eq_false hg | skip)) | ((first | apply st_ex hA hH rfl rfl (by decide) | apply dr_ex hA rfl rfl rfl (by decide) | apply dr_exp hA rfl rfl rfl (by decide) | apply dr_ex3 hA hH rfl rfl rfl (by decide)); (first | (apply ex_load_st (vs := encT s); rfl; rfl; apply cls_own; exact MEMT; exact hvs)); clear hA a; intro a hA) | (refine QT ?_; clear hA a; intro a hA) | (first | (refine BT ?_; clear hA hH; rintro _ w ⟨bN, rfl, hH⟩ a hA) | (refine LT ?_; clear hA hH; rintro _ w ⟨oN, rfl, hH⟩ a hA) | (refine AT ?_; clear hA; rintro _ w ⟨oN, cN, rfl, hH2⟩ a hA; clear hH; have hH := (hH2 _ (by (repeat constructor))).tail; clear hH2) | (refine S0T ?_; clear hH; rintro _ w hH) | (apply st_op0 hA rfl rfl; apply op_store_agg (vs := encT s); rfl; rfl; exact hH; (repeat constructor); (repeat rfl); clear hH; rintro _ w hH))) | ((first | refine CT ?_ | (refine DT ?_ ?_ <;> intro hc <;> try (exfalso; omega))) <;> repeat' refine CT ?_) | (first | (refine DSK ?_; clear hA a; intro a hA) | (first | (refine DLT ?_; clear hA hH; rintro _ w ⟨oN, rfl, hH⟩; refine ⟨STT, ?_⟩; intro a hA) | (refine DAT ?_; clear hA; rintro _ w ⟨oN, cN, rfl, hH2⟩; clear hH; have hH := (hH2 _ (by (repeat constructor))).tail; clear hH2; refine ⟨STT, ?_⟩; intro a hA))) )
      obtain ⟨b8, hb8⟩ : ∃ b, b = bN := ⟨_, rfl⟩
      rw [← hb8] at hA hH
      clear hb8 bN
      replace hH := (hH.pk 4 rfl).openAt (i := 0) rfl
      (refine wp_draw_HS (H := [Go.Fw.cb b1 29 [.int .i64 t.k, .int .i64 t.n, .slice o2 bd.length c2, .slice o1 t.q.length c1, .slice t.ot td.length t.ct, .slice t.oe t.es.length t.ce], Go.Fw.cb b8 29 (encT s)]) [(0, 1), (1, 1), (2, 1), (3, 1), (4, 0), (5, 1), (6, 0)] mixed (by decide +kernel) ((hH.two 3 2 rfl rfl)) ?_; replace hH := hH.drew)
      repeat' (first | (first | (refine GT ?_ ?_ <;> intro hg <;> clear hA a <;> intro a hA <;> (first | exact FA | replace hg := of_decide_eq_true hg | replace hg := of_decide_eq_false hg | skip)) | (refine QT ?_; clear hA a; intro a hA) | (first | (refine BT ?_; clear hA hH; rintro _ w ⟨bN, rfl, hH⟩ a hA) | (refine LT ?_; clear hA hH; rintro _ w ⟨oN, rfl, hH⟩ a hA) | (refine AT ?_; clear hA; rintro _ w ⟨oN, cN, rfl, hH2⟩ a hA; clear hH; have hH := (hH2 _ (by (repeat constructor))).tail; clear hH2) | (refine S0T ?_; clear hH; rintro _ w hH) )) | ((first | refine CT ?_ | (refine DT ?_ ?_ <;> intro hc <;> try (exfalso; omega))) <;> repeat' refine CT ?_) | (first | (refine DSK ?_; clear hA a; intro a hA) | (first | (refine DLT ?_; clear hA hH; rintro _ w ⟨oN, rfl, hH⟩; refine ⟨STT, ?_⟩; intro a hA) | (refine DAT ?_; clear hA; rintro _ w ⟨oN, cN, rfl, hH2⟩; clear hH; have hH := (hH2 _ (by (repeat constructor))).tail; clear hH2; refine ⟨STT, ?_⟩; intro a hA))) )
      (refine dr_op hA rfl rfl rfl (by decide) (op_call rfl rfl rfl (own_spec z s (by have := me_lt hsm; omega) w0 _ _ K ((hH.pk 12 rfl).pk 1 rfl) (fun w hw => (hR w hw).e s hsm) (hts.2.2.2.2 s hsm))) ?_; clear hA; rintro _ w ⟨s', rfl, hsh, hsu, hH⟩; refine ⟨hH.two 4 3 rfl rfl, ?_⟩; intro a hA)
      repeat' (first | (first | (refine GT ?_ ?_ <;> intro hg <;> clear hA a <;> intro a hA <;> (first | exact FA | replace hg := of_decide_eq_true hg | replace hg := of_decide_eq_false hg | skip)) | (refine QT ?_; clear hA a; intro a hA) | (first | (refine BT ?_; clear hA hH; rintro _ w ⟨bN, rfl, hH⟩ a hA) | (refine LT ?_; clear hA hH; rintro _ w ⟨oN, rfl, hH⟩ a hA) | (refine AT ?_; clear hA; rintro _ w ⟨oN, cN, rfl, hH2⟩ a hA; clear hH; have hH := (hH2 _ (by (repeat constructor))).tail; clear hH2) | (refine S0T ?_; clear hH; rintro _ w hH) )) | ((first | refine CT ?_ | (refine DT ?_ ?_ <;> intro hc <;> try (exfalso; omega))) <;> repeat' refine CT ?_) | (first | (refine DSK ?_; clear hA a; intro a hA) | (first | (refine DLT ?_; clear hA hH; rintro _ w ⟨oN, rfl, hH⟩; refine ⟨STT, ?_⟩; intro a hA) | (refine DAT ?_; clear hA; rintro _ w ⟨oN, cN, rfl, hH2⟩; clear hH; have hH := (hH2 _ (by (repeat constructor))).tail; clear hH2; refine ⟨STT, ?_⟩; intro a hA))) )
      (apply dr_op0 hA rfl rfl rfl; apply op_store_own (vs := encT s'); rfl; rfl; exact hH; (repeat constructor); (rw [hlen]; omega); exact flat_put encT_len (off := 0) (y := s') hwi put_T (Nat.le_refl 6); clear hH; rintro _ w hH; refine ⟨hH.two 4 3 rfl rfl, ?_⟩)
      rw [hws] at hH
      repeat' (first | (first | (refine GT ?_ ?_ <;> intro hg <;> clear hA a <;> intro a hA <;> (first | exact FA | replace hg := of_decide_eq_true hg | replace hg := of_decide_eq_false hg | skip)) | (refine QT ?_; clear hA a; intro a hA) | (first | (refine BT ?_; clear hA hH; rintro _ w ⟨bN, rfl, hH⟩ a hA) | (refine LT ?_; clear hA hH; rintro _ w ⟨oN, rfl, hH⟩ a hA) | (refine AT ?_; clear hA; rintro _ w ⟨oN, cN, rfl, hH2⟩ a hA; clear hH; have hH := (hH2 _ (by (repeat constructor))).tail; clear hH2) | (refine S0T ?_; clear hH; rintro _ w hH) )) | ((first | refine CT ?_ | (refine DT ?_ ?_ <;> intro hc <;> try (exfalso; omega))) <;> repeat' refine CT ?_) | (first | (refine DSK ?_; clear hA a; intro a hA) | (first | (refine DLT ?_; clear hA hH; rintro _ w ⟨oN, rfl, hH⟩; refine ⟨STT, ?_⟩; intro a hA) | (refine DAT ?_; clear hA; rintro _ w ⟨oN, cN, rfl, hH2⟩; clear hH; have hH := (hH2 _ (by (repeat constructor))).tail; clear hH2; refine ⟨STT, ?_⟩; intro a hA))) )
      refine ⟨i + 1, ⟨ed ++ [s'], ⟨hlt, by rw [len_snoc, hel], by rw [take_next hs, List.map_append, List.map_append, heu]; show _ ++ [s'.un] = _; rw [hsu]; rfl⟩, ?_, (hA.sub (by (repeat (first | exact trivial | refine ⟨rfl, ?_⟩))))⟩, by omega⟩
      rw [itFs_snoc]
      exact ((((hH.er 3).pk 5 rfl).pk 1 rfl).pushA).perm (by (repeat (first | exact List.Perm.refl _ | exact List.Perm.nil | refine perm_pick 0 rfl ?_ | refine perm_pick 1 rfl ?_ | refine perm_pick 2 rfl ?_ | refine perm_pick 3 rfl ?_ | refine perm_pick 4 rfl ?_ | refine perm_pick 5 rfl ?_ | refine perm_pick 6 rfl ?_ | refine perm_pick 7 rfl ?_ | refine perm_pick 8 rfl ?_ | refine perm_pick 9 rfl ?_ | refine perm_pick 10 rfl ?_ | refine perm_pick 11 rfl ?_)))
    clear hA hH
    rintro a w ⟨ed, i, ⟨hi, hel, heu⟩, hH, hA⟩
    subst hi
    rw [List.drop_length, List.append_nil, ← hel] at hH
    rw [List.take_length] at heu
    repeat' (first | (first | (refine GT ?_ ?_ <;> intro hg <;> clear hA a <;> intro a hA <;> (first | exact FA | replace hg := of_decide_eq_true hg | replace hg := of_decide_eq_false hg | skip)) | (refine QT ?_; clear hA a; intro a hA) | (first | (refine BT ?_; clear hA hH; rintro _ w ⟨bN, rfl, hH⟩ a hA) | (refine LT ?_; clear hA hH; rintro _ w ⟨oN, rfl, hH⟩ a hA) | (refine AT ?_; clear hA; rintro _ w ⟨oN, cN, rfl, hH2⟩ a hA; clear hH; have hH := (hH2 _ (by (repeat constructor))).tail; clear hH2) | (refine S0T ?_; clear hH; rintro _ w hH) | (apply st_op0 hA rfl rfl; apply op_store_agg (vs := [.int .i64 t.k, .int .i64 t.n, .slice o2 bd.length c2, .slice o1 t.q.length c1, .slice t.ot td.length t.ct, .slice t.oe ed.length t.ce]); rfl; rfl; exact hH; (repeat constructor); (repeat rfl); clear hH; rintro _ w hH))) | ((first | refine CT ?_ | (refine DT ?_ ?_ <;> intro hc <;> try (exfalso; omega))) <;> repeat' refine CT ?_) | (first | (refine DSK ?_; clear hA a; intro a hA) | (first | (refine DLT ?_; clear hA hH; rintro _ w ⟨oN, rfl, hH⟩; refine ⟨STT, ?_⟩; intro a hA) | (refine DAT ?_; clear hA; rintro _ w ⟨oN, cN, rfl, hH2⟩; clear hH; have hH := (hH2 _ (by (repeat constructor))).tail; clear hH2; refine ⟨STT, ?_⟩; intro a hA))) )
    refine rt1c (vs := encT (MT.mk t.h t.k t.n o2 c2 bd o1 c1 t.q t.ot t.ct td t.oe t.ce ed)) (.inl rfl) rfl hA rfl rfl hH (cls_cb_all (by exact MEMT)) ⟨MT.mk t.h t.k t.n o2 c2 bd o1 c1 t.q t.ot t.ct td t.oe t.ce ed, rfl, rfl, ?_, ?_⟩
    · rw [un_eq, un_eq t, ← hbu, ← htu, ← heu]
      rfl
    · rw [itF_eq]
      exact HS.shut (L := [_, _, _, _, _, _, _]) ((((hH.er 0).er 2).er 7).perm (by (repeat (first | exact List.Perm.refl _ | exact List.Perm.nil | refine perm_pick 0 rfl ?_ | refine perm_pick 1 rfl ?_ | refine perm_pick 2 rfl ?_ | refine perm_pick 3 rfl ?_ | refine perm_pick 4 rfl ?_ | refine perm_pick 5 rfl ?_ | refine perm_pick 6 rfl ?_ | refine perm_pick 7 rfl ?_ | refine perm_pick 8 rfl ?_ | refine perm_pick 9 rfl ?_ | refine perm_pick 10 rfl ?_ | refine perm_pick 11 rfl ?_))))
end Go.Proofs.Ytcododdkjppmjaa
namespace Go.Proofs.Ytcododdkjppmjaa
open Go Go.Fw
set_option linter.unusedVariables false
def rowsP : List AP → Nat → List Ln
  | [], _ => []
  | p :: l, i => plain (i : Int) [] [([], p)] :: rowsP l (i + 1)
theorem rowsP_snoc : ∀ (l : List AP) (p : AP) (i : Nat), rowsP (l ++ [p]) i = rowsP l i ++ [plain ((i + l.length : Nat) : Int) [] [([], p)]]
  | [], p, i => rfl
  | q :: l, p, i => by
    rw [List.cons_append, rowsP, rowsP_snoc l p (i + 1), rowsP, List.length_cons]
    rw [show i + 1 + l.length = i + (l.length + 1) by omega]
    rfl
theorem rowsP_len : ∀ (l : List AP) (i : Nat), (rowsP l i).length = l.length
  | [], i => rfl
  | q :: l, i => by rw [rowsP, List.length_cons, rowsP_len l (i + 1), List.length_cons]
theorem row_rw {n : Int} {p : AP} (hf : formP p = true) (hs : szA p ≤ 256) : Rw (plain n [] [([], p)]) := by
  refine plain_rw (fun c hc => ?_) (List.pairwise_singleton _ _) ?_ (fun c hc => ?_) (fun b hb => absurd hb List.not_mem_nil)
  · rw [List.mem_singleton] at hc; subst hc; exact hf
  · rw [szC_cons]; show szA p + 0 + 0 ≤ 256; omega
  · rw [List.mem_singleton] at hc; subst hc; show 0 + szA p ≤ 256; omega
theorem rowsP_rw : ∀ (l : List AP) (i : Nat), (∀ p ∈ l, formP p = true ∧ szA p ≤ 256) → ∀ r ∈ rowsP l i, Rw r
  | [], i, _, r, h => absurd h List.not_mem_nil
  | p :: l, i, hp, r, h => by
    rw [rowsP] at h
    rcases List.mem_cons.1 h with rfl | h
    · exact row_rw (hp p (.head _)).1 (hp p (.head _)).2
    · exact rowsP_rw l (i + 1) (fun q hq => hp q (.tail _ hq)) r h
def z0 : Tr := .mk hd0 0 0 [] [] [] []
/-- what Compile answers: what is wrong; a tree -/
def comP (l : List AP) : Int × Tr :=
  if 64 < l.length ∨ l.any (fun p => decide (256 < partsP p 256)) = true then (3, z0)
  else if l.any (fun p => !formP p) = true then (5, z0)
  else if (treeP 1024 hd0 (rowsP l 0) 1024).2 < 0 then (3, z0) else (0, (treeP 1024 hd0 (rowsP l 0) 1024).1)
def RdAs (w : World) (o : Option Addr) (c : Nat) (l : List AP) : Prop := Rd w o (flat encA l) ∧ l.length ≤ c ∧ c ≤ maxLen ∧ ∀ a ∈ l, RdA w a
theorem RdAs.keep {w w' : World} {o : Option Addr} {c : Nat} {l : List AP} (h : RdAs w o c l) (hk : Kp w noM w') : RdAs w' o c l := ⟨((HS.init w noM).keep hk).rd h.1 id, h.2.1, h.2.2.1, fun a ha => (h.2.2.2 a ha).keep hk⟩
theorem hs_z0 {w0 w : World} {H : List It} (h : HS w0 noM H w) : HS w0 noM (all (itF (zT hd0)) :: H) w := by
  rw [itF_eq]
  exact HS.shut (L := [_, _, _, _, _, _, _]) ((((((((h.nil_all).nil_all).nil_own _ _).nil_own _ _).nil_all).nil_own _ _).nil_own _ _))
theorem RdQ_nil (w : World) : RdQ w none 0 [] := ⟨⟨fun h => absurd h (by decide), fun j u h => by simp [flat] at h⟩, Nat.zero_le _, Nat.zero_le _⟩
theorem un_z0 : (zT hd0).un = z0 := by rw [un_eq]; rfl
theorem comP_many {l : List AP} (h : 64 < l.length ∨ l.any (fun p => decide (256 < partsP p 256)) = true) : comP l = (3, z0) := by unfold comP; rw [if_pos h]
theorem comP_form {l : List AP} (h : ¬ (64 < l.length ∨ l.any (fun p => decide (256 < partsP p 256)) = true)) (h2 : l.any (fun p => !formP p) = true) : comP l = (5, z0) := by unfold comP; rw [if_neg h, if_pos h2]
theorem comP_great {l : List AP} (h : ¬ (64 < l.length ∨ l.any (fun p => decide (256 < partsP p 256)) = true)) (h2 : ¬ l.any (fun p => !formP p) = true) (h3 : (treeP 1024 hd0 (rowsP l 0) 1024).2 < 0) : comP l = (3, z0) := by unfold comP; rw [if_neg h, if_neg h2, if_pos h3]
theorem comP_ok {l : List AP} (h : ¬ (64 < l.length ∨ l.any (fun p => decide (256 < partsP p 256)) = true)) (h2 : ¬ l.any (fun p => !formP p) = true) (h3 : ¬ (treeP 1024 hd0 (rowsP l 0) 1024).2 < 0) : comP l = (0, (treeP 1024 hd0 (rowsP l 0) 1024).1) := by unfold comP; rw [if_neg h, if_neg h2, if_neg h3]
theorem few_of {l : List AP} (h : ¬ (64 < l.length ∨ l.any (fun p => decide (256 < partsP p 256)) = true)) (h2 : ¬ l.any (fun p => !formP p) = true) : l.length ≤ 64 ∧ ∀ p ∈ l, formP p = true ∧ szA p ≤ 256 := by
  have h1 : ¬ 64 < l.length := fun h1 => h (.inl h1)
  refine ⟨by omega, fun p hp => ⟨?_, ?_⟩⟩
  · cases hf : formP p with
    | true => rfl
    | false => exact absurd (List.any_eq_true.2 ⟨p, hp, by rw [hf]; rfl⟩) h2
  · have h3 : ¬ 256 < partsP p 256 := fun h3 => h (.inr (List.any_eq_true.2 ⟨p, hp, decide_eq_true h3⟩))
    have h4 := sz_parts p 256 (by omega)
    omega
set_option maxRecDepth 10000 attribute [local irreducible] Code.wp wpList Calls Ex Op1 sat bat blk cb own Go.Fw.mp Go.Fw.mpO Go.Fw.mpI Go.Fw.mpE Go.Fw.itr HS Rd Ret wkD Hp Cl Cls Exit.then Exit.inBlock Exit.noGoto bodyPost Go.Fw.flat wk2 Go.Fw.all Go.Fw.owns wpOp
attribute [local irreducible] encA encC encL itT itTs itF itFs comP treeP formP partsP szA

theorem com1_spec (w0 : World) (p : AP) (hR : RdA w0 p) : Ret Try.prog 16 #[.agg #[.int .i64 p.k, .int .i64 p.v, .int .i64 p.n, .string p.s, .slice p.ol p.ls.length p.cl, .slice p.oa p.ps.length p.ca]] w0 (fun v w => v = .bool (decide (256 < partsP p 256)) ∧ Kp w0 noM w) := by
  have hH : HS w0 noM [] w0 := HS.init w0 noM
  (refine enter (N := 6) Try.func16 rfl Try.ntmps16 rfl ?_; intro a hA; dsimp only [sl0, Nat.reduceAdd] at hA)
  repeat' (first | (first | (refine GT ?_ ?_ <;> intro hg <;> clear hA a <;> intro a hA <;> (first | exact FA | replace hg := of_decide_eq_true hg | replace hg := of_decide_eq_false hg | skip)) | (refine QT ?_; clear hA a; intro a hA) | (first | (refine BT ?_; clear hA hH; rintro _ w ⟨bN, rfl, hH⟩ a hA) | (refine LT ?_; clear hA hH; rintro _ w ⟨oN, rfl, hH⟩ a hA) | (refine AT ?_; clear hA; rintro _ w ⟨oN, cN, rfl, hH2⟩ a hA; clear hH; have hH := (hH2 _ (by (repeat constructor))).tail; clear hH2) | (refine S0T ?_; clear hH; rintro _ w hH) )) | ((first | refine CT ?_ | (refine DT ?_ ?_ <;> intro hc <;> try (exfalso; omega))) <;> repeat' refine CT ?_) | (first | (refine DSK ?_; clear hA a; intro a hA) | (first | (refine DLT ?_; clear hA hH; rintro _ w ⟨oN, rfl, hH⟩; refine ⟨STT, ?_⟩; intro a hA) | (refine DAT ?_; clear hA; rintro _ w ⟨oN, cN, rfl, hH2⟩; clear hH; have hH := (hH2 _ (by (repeat constructor))).tail; clear hH2; refine ⟨STT, ?_⟩; intro a hA))) )
  (refine st_op hA rfl rfl (by decide) (op_call rfl rfl rfl (parts_spec _ p (Nat.lt_succ_self _) _ 256 (by omega) (hR.keep hH.kp))) ?_; clear hA; rintro _ w ⟨rfl, hk⟩ a hA; replace hH := hH.keep hk; clear hk)
  repeat' (first | (first | (refine GT ?_ ?_ <;> intro hg <;> clear hA a <;> intro a hA <;> (first | exact FA | replace hg := of_decide_eq_true hg | replace hg := of_decide_eq_false hg | skip)) | (refine QT ?_; clear hA a; intro a hA) | (first | (refine BT ?_; clear hA hH; rintro _ w ⟨bN, rfl, hH⟩ a hA) | (refine LT ?_; clear hA hH; rintro _ w ⟨oN, rfl, hH⟩ a hA) | (refine AT ?_; clear hA; rintro _ w ⟨oN, cN, rfl, hH2⟩ a hA; clear hH; have hH := (hH2 _ (by (repeat constructor))).tail; clear hH2) | (refine S0T ?_; clear hH; rintro _ w hH) )) | ((first | refine CT ?_ | (refine DT ?_ ?_ <;> intro hc <;> try (exfalso; omega))) <;> repeat' refine CT ?_) | (first | (refine DSK ?_; clear hA a; intro a hA) | (first | (refine DLT ?_; clear hA hH; rintro _ w ⟨oN, rfl, hH⟩; refine ⟨STT, ?_⟩; intro a hA) | (refine DAT ?_; clear hA; rintro _ w ⟨oN, cN, rfl, hH2⟩; clear hH; have hH := (hH2 _ (by (repeat constructor))).tail; clear hH2; refine ⟨STT, ?_⟩; intro a hA))) )
  exact rt1 (.inl rfl) rfl hA rfl ⟨rfl, hH.kp⟩
theorem com2_spec (w0 : World) (p : AP) (hR : RdA w0 p) : Ret Try.prog 18 #[.agg #[.int .i64 p.k, .int .i64 p.v, .int .i64 p.n, .string p.s, .slice p.ol p.ls.length p.cl, .slice p.oa p.ps.length p.ca]] w0 (fun v w => v = .bool (!formP p) ∧ Kp w0 noM w) := by
  have hH : HS w0 noM [] w0 := HS.init w0 noM
  (refine enter (N := 6) Try.func18 rfl Try.ntmps18 rfl ?_; intro a hA; dsimp only [sl0, Nat.reduceAdd] at hA)
  repeat' (first | (first | (refine GT ?_ ?_ <;> intro hg <;> clear hA a <;> intro a hA <;> (first | exact FA | replace hg := of_decide_eq_true hg | replace hg := of_decide_eq_false hg | skip)) | (refine QT ?_; clear hA a; intro a hA) | (first | (refine BT ?_; clear hA hH; rintro _ w ⟨bN, rfl, hH⟩ a hA) | (refine LT ?_; clear hA hH; rintro _ w ⟨oN, rfl, hH⟩ a hA) | (refine AT ?_; clear hA; rintro _ w ⟨oN, cN, rfl, hH2⟩ a hA; clear hH; have hH := (hH2 _ (by (repeat constructor))).tail; clear hH2) | (refine S0T ?_; clear hH; rintro _ w hH) )) | ((first | refine CT ?_ | (refine DT ?_ ?_ <;> intro hc <;> try (exfalso; omega))) <;> repeat' refine CT ?_) | (first | (refine DSK ?_; clear hA a; intro a hA) | (first | (refine DLT ?_; clear hA hH; rintro _ w ⟨oN, rfl, hH⟩; refine ⟨STT, ?_⟩; intro a hA) | (refine DAT ?_; clear hA; rintro _ w ⟨oN, cN, rfl, hH2⟩; clear hH; have hH := (hH2 _ (by (repeat constructor))).tail; clear hH2; refine ⟨STT, ?_⟩; intro a hA))) )
  (refine st_op hA rfl rfl (by decide) (op_call rfl rfl rfl (form_spec _ p (Nat.lt_succ_self _) _ (hR.keep hH.kp))) ?_; clear hA; rintro _ w ⟨rfl, hk⟩ a hA; replace hH := hH.keep hk; clear hk)
  repeat' (first | (first | (refine GT ?_ ?_ <;> intro hg <;> clear hA a <;> intro a hA <;> (first | exact FA | replace hg := of_decide_eq_true hg | replace hg := of_decide_eq_false hg | skip)) | (refine QT ?_; clear hA a; intro a hA) | (first | (refine BT ?_; clear hA hH; rintro _ w ⟨bN, rfl, hH⟩ a hA) | (refine LT ?_; clear hA hH; rintro _ w ⟨oN, rfl, hH⟩ a hA) | (refine AT ?_; clear hA; rintro _ w ⟨oN, cN, rfl, hH2⟩ a hA; clear hH; have hH := (hH2 _ (by (repeat constructor))).tail; clear hH2) | (refine S0T ?_; clear hH; rintro _ w hH) )) | ((first | refine CT ?_ | (refine DT ?_ ?_ <;> intro hc <;> try (exfalso; omega))) <;> repeat' refine CT ?_) | (first | (refine DSK ?_; clear hA a; intro a hA) | (first | (refine DLT ?_; clear hA hH; rintro _ w ⟨oN, rfl, hH⟩; refine ⟨STT, ?_⟩; intro a hA) | (refine DAT ?_; clear hA; rintro _ w ⟨oN, cN, rfl, hH2⟩; clear hH; have hH := (hH2 _ (by (repeat constructor))).tail; clear hH2; refine ⟨STT, ?_⟩; intro a hA))) )
  exact rt1 (.inl rfl) rfl hA rfl ⟨rfl, hH.kp⟩
set_option maxHeartbeats 8000000 in
theorem compile_spec (w0 : World) (o : Option Addr) (c : Nat) (l : List AP) (hR : RdAs w0 o c l) :
    Ret Try.prog 6 #[.slice o l.length c] w0 (fun v w => ∃ t : MT, v = .tuple #[.agg (encT t).toArray, .int .i64 (comP l).1] ∧ t.un = (comP l).2 ∧ HS w0 noM [all (itF t)] w) := by
  have hH : HS w0 noM [] w0 := HS.init w0 noM
  have hlc := hR.2
  unfold maxLen at hlc
  have hsp : Sp o l.length := hR.1.sp (sz := 6) (flat_length encA_len l) (by omega)
  (refine enter (N := 50) Try.func6 rfl Try.ntmps6 rfl ?_; intro a hA; dsimp only [sl0, Nat.reduceAdd] at hA)
  repeat' (first | (first | (refine GT ?_ ?_ <;> intro hg <;> clear hA a <;> intro a hA <;> (first | exact FA | replace hg := of_decide_eq_true hg | replace hg := of_decide_eq_false hg | skip)) | (refine QT ?_; clear hA a; intro a hA) | (first | (refine BT ?_; clear hA hH; rintro _ w ⟨bN, rfl, hH⟩ a hA) | (refine LT ?_; clear hA hH; rintro _ w ⟨oN, rfl, hH⟩ a hA) | (refine AT ?_; clear hA; rintro _ w ⟨oN, cN, rfl, hH2⟩ a hA; clear hH; have hH := (hH2 _ (by (repeat constructor))).tail; clear hH2) | (refine S0T ?_; clear hH; rintro _ w hH) )) | ((first | refine CT ?_ | (refine DT ?_ ?_ <;> intro hc <;> try (exfalso; omega))) <;> repeat' refine CT ?_) | (first | (refine DSK ?_; clear hA a; intro a hA) | (first | (refine DLT ?_; clear hA hH; rintro _ w ⟨oN, rfl, hH⟩; refine ⟨STT, ?_⟩; intro a hA) | (refine DAT ?_; clear hA; rintro _ w ⟨oN, cN, rfl, hH2⟩; clear hH; have hH := (hH2 _ (by (repeat constructor))).tail; clear hH2; refine ⟨STT, ?_⟩; intro a hA))) )
  · have hcom := comP_many (l := l) (.inl (by omega))
    repeat' (first | (first | (refine GT ?_ ?_ <;> intro hg <;> clear hA a <;> intro a hA <;> (first | exact FA | replace hg := of_decide_eq_true hg | replace hg := of_decide_eq_false hg | skip)) | ((first | apply st_ex hA hH rfl rfl (by decide) | apply dr_ex hA rfl rfl rfl (by decide) | apply dr_exp hA rfl rfl rfl (by decide) | apply dr_ex3 hA hH rfl rfl rfl (by decide)); (first | (apply ex_build_p (encT (zT hd0)).toArray; rfl; (repeat (first | (intro _ h; exact absurd h (List.not_mem_nil)) | (refine List.forall_mem_cons.2 ⟨one_cell_of _ _, ?_⟩))); rfl)); clear hA a; intro a hA) | (refine QT ?_; clear hA a; intro a hA) | (first | (refine BT ?_; clear hA hH; rintro _ w ⟨bN, rfl, hH⟩ a hA) | (refine LT ?_; clear hA hH; rintro _ w ⟨oN, rfl, hH⟩ a hA) | (refine AT ?_; clear hA; rintro _ w ⟨oN, cN, rfl, hH2⟩ a hA; clear hH; have hH := (hH2 _ (by (repeat constructor))).tail; clear hH2) | (refine S0T ?_; clear hH; rintro _ w hH) | (apply st_op0 hA rfl rfl; apply op_store_agg (vs := encT (zT hd0)); rfl; rfl; exact hH; (repeat constructor); (repeat rfl); clear hH; rintro _ w hH))) | ((first | refine CT ?_ | (refine DT ?_ ?_ <;> intro hc <;> try (exfalso; omega))) <;> repeat' refine CT ?_) | (first | (refine DSK ?_; clear hA a; intro a hA) | (first | (refine DLT ?_; clear hA hH; rintro _ w ⟨oN, rfl, hH⟩; refine ⟨STT, ?_⟩; intro a hA) | (refine DAT ?_; clear hA; rintro _ w ⟨oN, cN, rfl, hH2⟩; clear hH; have hH := (hH2 _ (by (repeat constructor))).tail; clear hH2; refine ⟨STT, ?_⟩; intro a hA))) )
    exact rt2c (vs := encT (zT hd0)) (.inl rfl) rfl hA rfl rfl rfl hH (cls_cb_all (by exact MEMT)) ⟨zT hd0, by rw [hcom], by rw [hcom]; exact un_z0, hs_z0 hH.drop_⟩
  (refine st_op hA rfl rfl (by decide) (op_call rfl rfl rfl (containsA_spec _ o c l 16 #[] #[] (fun p => decide (256 < partsP p 256)) (hH.rd hR.1 id) (by unfold maxLen; omega) (fun x hx w hw => com1_spec w x ((hR.2.2.2 x hx).keep (hH.kp.trans hw fun b hb => hb.elim))))) ?_; clear hA; rintro _ w ⟨rfl, hk⟩ a hA; replace hH := hH.keep hk; clear hk)
  cases hmany : l.any (fun p => decide (256 < partsP p 256)) with
  | true =>
    rw [hmany] at hA
    have hcom := comP_many (l := l) (.inr hmany)
    repeat' (first | (first | (refine GT ?_ ?_ <;> intro hg <;> clear hA a <;> intro a hA <;> (first | exact FA | replace hg := of_decide_eq_true hg | replace hg := of_decide_eq_false hg | skip)) | ((first | apply st_ex hA hH rfl rfl (by decide) | apply dr_ex hA rfl rfl rfl (by decide) | apply dr_exp hA rfl rfl rfl (by decide) | apply dr_ex3 hA hH rfl rfl rfl (by decide)); (first | (apply ex_build_p (encT (zT hd0)).toArray; rfl; (repeat (first | (intro _ h; exact absurd h (List.not_mem_nil)) | (refine List.forall_mem_cons.2 ⟨one_cell_of _ _, ?_⟩))); rfl)); clear hA a; intro a hA) | (refine QT ?_; clear hA a; intro a hA) | (first | (refine BT ?_; clear hA hH; rintro _ w ⟨bN, rfl, hH⟩ a hA) | (refine LT ?_; clear hA hH; rintro _ w ⟨oN, rfl, hH⟩ a hA) | (refine AT ?_; clear hA; rintro _ w ⟨oN, cN, rfl, hH2⟩ a hA; clear hH; have hH := (hH2 _ (by (repeat constructor))).tail; clear hH2) | (refine S0T ?_; clear hH; rintro _ w hH) | (apply st_op0 hA rfl rfl; apply op_store_agg (vs := encT (zT hd0)); rfl; rfl; exact hH; (repeat constructor); (repeat rfl); clear hH; rintro _ w hH))) | ((first | refine CT ?_ | (refine DT ?_ ?_ <;> intro hc <;> try (exfalso; omega))) <;> repeat' refine CT ?_) | (first | (refine DSK ?_; clear hA a; intro a hA) | (first | (refine DLT ?_; clear hA hH; rintro _ w ⟨oN, rfl, hH⟩; refine ⟨STT, ?_⟩; intro a hA) | (refine DAT ?_; clear hA; rintro _ w ⟨oN, cN, rfl, hH2⟩; clear hH; have hH := (hH2 _ (by (repeat constructor))).tail; clear hH2; refine ⟨STT, ?_⟩; intro a hA))) )
    exact rt2c (vs := encT (zT hd0)) (.inl rfl) rfl hA rfl rfl rfl hH (cls_cb_all (by exact MEMT)) ⟨zT hd0, by rw [hcom], by rw [hcom]; exact un_z0, hs_z0 hH.drop_⟩
  | false =>
  rw [hmany] at hA
  have hnm : ¬ (64 < l.length ∨ l.any (fun p => decide (256 < partsP p 256)) = true) := by rw [hmany]; rintro (h | h); omega; cases h
  repeat' (first | (first | (refine GT ?_ ?_ <;> intro hg <;> clear hA a <;> intro a hA <;> (first | exact FA | replace hg := of_decide_eq_true hg | replace hg := of_decide_eq_false hg | skip)) | (refine QT ?_; clear hA a; intro a hA) | (first | (refine BT ?_; clear hA hH; rintro _ w ⟨bN, rfl, hH⟩ a hA) | (refine LT ?_; clear hA hH; rintro _ w ⟨oN, rfl, hH⟩ a hA) | (refine AT ?_; clear hA; rintro _ w ⟨oN, cN, rfl, hH2⟩ a hA; clear hH; have hH := (hH2 _ (by (repeat constructor))).tail; clear hH2) | (refine S0T ?_; clear hH; rintro _ w hH) )) | ((first | refine CT ?_ | (refine DT ?_ ?_ <;> intro hc <;> try (exfalso; omega))) <;> repeat' refine CT ?_) | (first | (refine DSK ?_; clear hA a; intro a hA) | (first | (refine DLT ?_; clear hA hH; rintro _ w ⟨oN, rfl, hH⟩; refine ⟨STT, ?_⟩; intro a hA) | (refine DAT ?_; clear hA; rintro _ w ⟨oN, cN, rfl, hH2⟩; clear hH; have hH := (hH2 _ (by (repeat constructor))).tail; clear hH2; refine ⟨STT, ?_⟩; intro a hA))) )
  (refine st_op hA rfl rfl (by decide) (op_call rfl rfl rfl (containsA_spec _ o c l 18 #[] #[] (fun p => !formP p) (hH.rd hR.1 id) (by unfold maxLen; omega) (fun x hx w hw => com2_spec w x ((hR.2.2.2 x hx).keep (hH.kp.trans hw fun b hb => hb.elim))))) ?_; clear hA; rintro _ w ⟨rfl, hk⟩ a hA; replace hH := hH.keep hk; clear hk)
  cases hform : l.any (fun p => !formP p) with
  | true =>
    rw [hform] at hA
    have hcom := comP_form (l := l) hnm hform
    repeat' (first | (first | (refine GT ?_ ?_ <;> intro hg <;> clear hA a <;> intro a hA <;> (first | exact FA | replace hg := of_decide_eq_true hg | replace hg := of_decide_eq_false hg | skip)) | ((first | apply st_ex hA hH rfl rfl (by decide) | apply dr_ex hA rfl rfl rfl (by decide) | apply dr_exp hA rfl rfl rfl (by decide) | apply dr_ex3 hA hH rfl rfl rfl (by decide)); (first | (apply ex_build_p (encT (zT hd0)).toArray; rfl; (repeat (first | (intro _ h; exact absurd h (List.not_mem_nil)) | (refine List.forall_mem_cons.2 ⟨one_cell_of _ _, ?_⟩))); rfl)); clear hA a; intro a hA) | (refine QT ?_; clear hA a; intro a hA) | (first | (refine BT ?_; clear hA hH; rintro _ w ⟨bN, rfl, hH⟩ a hA) | (refine LT ?_; clear hA hH; rintro _ w ⟨oN, rfl, hH⟩ a hA) | (refine AT ?_; clear hA; rintro _ w ⟨oN, cN, rfl, hH2⟩ a hA; clear hH; have hH := (hH2 _ (by (repeat constructor))).tail; clear hH2) | (refine S0T ?_; clear hH; rintro _ w hH) | (apply st_op0 hA rfl rfl; apply op_store_agg (vs := encT (zT hd0)); rfl; rfl; exact hH; (repeat constructor); (repeat rfl); clear hH; rintro _ w hH))) | ((first | refine CT ?_ | (refine DT ?_ ?_ <;> intro hc <;> try (exfalso; omega))) <;> repeat' refine CT ?_) | (first | (refine DSK ?_; clear hA a; intro a hA) | (first | (refine DLT ?_; clear hA hH; rintro _ w ⟨oN, rfl, hH⟩; refine ⟨STT, ?_⟩; intro a hA) | (refine DAT ?_; clear hA; rintro _ w ⟨oN, cN, rfl, hH2⟩; clear hH; have hH := (hH2 _ (by (repeat constructor))).tail; clear hH2; refine ⟨STT, ?_⟩; intro a hA))) )
    exact rt2c (vs := encT (zT hd0)) (.inl rfl) rfl hA rfl rfl rfl hH (cls_cb_all (by exact MEMT)) ⟨zT hd0, by rw [hcom], by rw [hcom]; exact un_z0, hs_z0 hH.drop_⟩
  | false =>
  rw [hform] at hA
  have hnf : ¬ l.any (fun p => !formP p) = true := by rw [hform]; exact Bool.false_ne_true
  have hfew := few_of hnm hnf
  obtain ⟨b2, hb2⟩ : ∃ b, b = bN := ⟨_, rfl⟩
  rw [← hb2] at hA hH
  clear hb2 bN
  repeat' (first | (first | (refine GT ?_ ?_ <;> intro hg <;> clear hA a <;> intro a hA <;> (first | exact FA | replace hg := of_decide_eq_true hg | replace hg := of_decide_eq_false hg | skip)) | (refine QT ?_; clear hA a; intro a hA) | (first | (refine BT ?_; clear hA hH; rintro _ w ⟨bN, rfl, hH⟩ a hA) | (refine LT ?_; clear hA hH; rintro _ w ⟨oN, rfl, hH⟩ a hA) | (refine AT ?_; clear hA; rintro _ w ⟨oN, cN, rfl, hH2⟩ a hA; clear hH; have hH := (hH2 _ (by (repeat constructor))).tail; clear hH2) | (refine S0T ?_; clear hH; rintro _ w hH) )) | ((first | refine CT ?_ | (refine DT ?_ ?_ <;> intro hc <;> try (exfalso; omega))) <;> repeat' refine CT ?_) | (first | (refine DSK ?_; clear hA a; intro a hA) | (first | (refine DLT ?_; clear hA hH; rintro _ w ⟨oN, rfl, hH⟩; refine ⟨STT, ?_⟩; intro a hA) | (refine DAT ?_; clear hA; rintro _ w ⟨oN, cN, rfl, hH2⟩; clear hH; have hH := (hH2 _ (by (repeat constructor))).tail; clear hH2; refine ⟨STT, ?_⟩; intro a hA))) )
  refine wp_lpk (S := Nat) (fun i a w => ∃ (K : World → Prop) (oo : Option Addr) (co : Nat) (lo : List ML), (i ≤ l.length ∧ (∀ w, K w → Kp w0 noM w ∧ ∀ m ∈ lo, RdL w m) ∧ lo.map ML.un = rowsP (l.take i) 0 ∧ lo.length = i) ∧
      HS w0 noM [own 52 3 oo lo.length co (flat encL lo), frz w0 K, Go.Fw.cb b2 29 (encT (zT hd0))] w ∧ Sl 50 [(2, .pointer (some (bat b2 0))), (4, .slice oo lo.length co), (20, .slice o l.length c), (21, .int .i64 l.length), (22, .int .i64 i)] a)
    (fun i => l.length - i)
    (fun a w => ∃ (K : World → Prop) (oo : Option Addr) (co : Nat) (lo : List ML), ((∀ w, K w → Kp w0 noM w ∧ ∀ m ∈ lo, RdL w m) ∧ lo.map ML.un = rowsP l 0) ∧
      HS w0 noM [own 52 3 oo lo.length co (flat encL lo), frz w0 K, Go.Fw.cb b2 29 (encT (zT hd0))] w ∧ Sl 50 [(2, .pointer (some (bat b2 0))), (4, .slice oo lo.length co)] a) 0
    ⟨fun w => Kp w0 noM w, none, 0, [], ⟨Nat.zero_le _, fun w h => ⟨h, fun m hm => absurd hm List.not_mem_nil⟩, by rw [List.take_zero]; rfl, rfl⟩, ((hH.frz_nil fun w h => h).nil_flat encL 52 3).perm (by (repeat (first | exact List.Perm.refl _ | exact List.Perm.nil | refine perm_pick 0 rfl ?_ | refine perm_pick 1 rfl ?_ | refine perm_pick 2 rfl ?_ | refine perm_pick 3 rfl ?_ | refine perm_pick 4 rfl ?_ | refine perm_pick 5 rfl ?_ | refine perm_pick 6 rfl ?_ | refine perm_pick 7 rfl ?_ | refine perm_pick 8 rfl ?_ | refine perm_pick 9 rfl ?_ | refine perm_pick 10 rfl ?_ | refine perm_pick 11 rfl ?_))), (hA.sub (by (repeat (first | exact trivial | refine ⟨rfl, ?_⟩))))⟩ ?_ ?_
  · clear hA hH
    rintro i a w ⟨K, oo, co, lo, ⟨hi, hK, hlo, hll⟩, hH, hA⟩
    by_cases hlt : i < l.length
    rotate_left
    · obtain rfl : i = l.length := by omega
      rw [List.take_length] at hlo
      repeat' (first | (first | (refine GT ?_ ?_ <;> intro hg <;> clear hA a <;> intro a hA <;> (first | exact FA | replace hg := of_decide_eq_true hg | replace hg := of_decide_eq_false hg | skip)) | (refine QT ?_; clear hA a; intro a hA) | (first | (refine BT ?_; clear hA hH; rintro _ w ⟨bN, rfl, hH⟩ a hA) | (refine LT ?_; clear hA hH; rintro _ w ⟨oN, rfl, hH⟩ a hA) | (refine AT ?_; clear hA; rintro _ w ⟨oN, cN, rfl, hH2⟩ a hA; clear hH; have hH := (hH2 _ (by (repeat constructor))).tail; clear hH2) | (refine S0T ?_; clear hH; rintro _ w hH) )) | ((first | refine CT ?_ | (refine DT ?_ ?_ <;> intro hc <;> try (exfalso; omega))) <;> repeat' refine CT ?_) | (first | (refine DSK ?_; clear hA a; intro a hA) | (first | (refine DLT ?_; clear hA hH; rintro _ w ⟨oN, rfl, hH⟩; refine ⟨STT, ?_⟩; intro a hA) | (refine DAT ?_; clear hA; rintro _ w ⟨oN, cN, rfl, hH2⟩; clear hH; have hH := (hH2 _ (by (repeat constructor))).tail; clear hH2; refine ⟨STT, ?_⟩; intro a hA))) )
      exact ⟨K, oo, co, lo, ⟨hK, hlo⟩, hH, (hA.sub (by (repeat (first | exact trivial | refine ⟨rfl, ?_⟩))))⟩
    obtain ⟨x, hx⟩ : ∃ x, l[i]? = some x := ⟨_, List.getElem?_eq_getElem hlt⟩
    have hxm := List.mem_of_getElem? hx
    have hvs := flat_all encA_len hx
    rw [encA_eq] at hvs
    repeat' (first | (first | (refine GT ?_ ?_ <;> intro hg <;> clear hA a <;> intro a hA <;> (first | exact FA | replace hg := of_decide_eq_true hg | replace hg := of_decide_eq_false hg | skip)) | ((first | apply st_ex hA hH rfl rfl (by decide) | apply dr_ex hA rfl rfl rfl (by decide) | apply dr_exp hA rfl rfl rfl (by decide) | apply dr_ex3 hA hH rfl rfl rfl (by decide)); (first | (apply ex_load_st (vs := [.int .i64 x.k, .int .i64 x.v, .int .i64 x.n, .string x.s, .slice x.ol x.ls.length x.cl, .slice x.oa x.ps.length x.ca]); rfl; rfl; exact cls_rd hR.1 id hvs)); clear hA a; intro a hA) | (refine QT ?_; clear hA a; intro a hA) | (first | (refine BT ?_; clear hA hH; rintro _ w ⟨bN, rfl, hH⟩ a hA) | (refine LT ?_; clear hA hH; rintro _ w ⟨oN, rfl, hH⟩ a hA) | (refine AT ?_; clear hA; rintro _ w ⟨oN, cN, rfl, hH2⟩ a hA; clear hH; have hH := (hH2 _ (by (repeat constructor))).tail; clear hH2) | (refine S0T ?_; clear hH; rintro _ w hH) | (apply st_op0 hA rfl rfl; apply op_store_agg (vs := [.int .i64 x.k, .int .i64 x.v, .int .i64 x.n, .string x.s, .slice x.ol x.ls.length x.cl, .slice x.oa x.ps.length x.ca]); rfl; rfl; exact hH; (repeat constructor); (repeat rfl); clear hH; rintro _ w hH))) | ((first | refine CT ?_ | (refine DT ?_ ?_ <;> intro hc <;> try (exfalso; omega))) <;> repeat' refine CT ?_) | (first | (refine DSK ?_; clear hA a; intro a hA) | (first | (refine DLT ?_; clear hA hH; rintro _ w ⟨oN, rfl, hH⟩; refine ⟨STT, ?_⟩; intro a hA) | (refine DAT ?_; clear hA; rintro _ w ⟨oN, cN, rfl, hH2⟩; clear hH; have hH := (hH2 _ (by (repeat constructor))).tail; clear hH2; refine ⟨STT, ?_⟩; intro a hA))) )
    repeat' (first | (first | (refine GT ?_ ?_ <;> intro hg <;> clear hA a <;> intro a hA <;> (first | exact FA | replace hg := of_decide_eq_true hg | replace hg := of_decide_eq_false hg | skip)) | ((first | apply st_ex hA hH rfl rfl (by decide) | apply dr_ex hA rfl rfl rfl (by decide) | apply dr_exp hA rfl rfl rfl (by decide) | apply dr_ex3 hA hH rfl rfl rfl (by decide)); (first | (apply ex_build_p #[.int .i64 i, .slice none 0 0, .slice none 0 0]; rfl; (repeat (first | (intro _ h; exact absurd h (List.not_mem_nil)) | (refine List.forall_mem_cons.2 ⟨one_cell_of _ _, ?_⟩))); rfl) | (apply ex_build_12 (us := [.int .i64 x.k, .int .i64 x.v, .int .i64 x.n, .string x.s, .slice x.ol x.ls.length x.cl, .slice x.oa x.ps.length x.ca]); rfl; rfl; rfl; rfl; rfl; exact ⟨size_of _ _ _, size_of _ _ _, trivial⟩)); clear hA a; intro a hA) | (refine QT ?_; clear hA a; intro a hA) | (first | (refine BT ?_; clear hA hH; rintro _ w ⟨bN, rfl, hH⟩ a hA) | (refine LT ?_; clear hA hH; rintro _ w ⟨oN, rfl, hH⟩ a hA) | (refine AT ?_; clear hA; rintro _ w ⟨oN, cN, rfl, hH2⟩ a hA; clear hH; have hH := (hH2 _ (by (repeat constructor))).tail; clear hH2) | (refine S0T ?_; clear hH; rintro _ w hH) )) | ((first | refine CT ?_ | (refine DT ?_ ?_ <;> intro hc <;> try (exfalso; omega))) <;> repeat' refine CT ?_) | (first | (refine DSK ?_; clear hA a; intro a hA) | (first | (refine DLT ?_; clear hA hH; rintro _ w ⟨oN, rfl, hH⟩; refine ⟨STT, ?_⟩; intro a hA) | (refine DAT ?_; clear hA; rintro _ w ⟨oN, cN, rfl, hH2⟩; clear hH; have hH := (hH2 _ (by (repeat constructor))).tail; clear hH2; refine ⟨STT, ?_⟩; intro a hA))) )
    (apply st_op hA rfl rfl (by decide); apply op_sliceLit (xs := [.slice (MC.mk none 0 [] x).o (MC.mk none 0 [] x).q.length (MC.mk none 0 [] x).c, .int .i64 (MC.mk none 0 [] x).p.k, .int .i64 (MC.mk none 0 [] x).p.v, .int .i64 (MC.mk none 0 [] x).p.n, .string (MC.mk none 0 [] x).p.s, .slice (MC.mk none 0 [] x).p.ol (MC.mk none 0 [] x).p.ls.length (MC.mk none 0 [] x).p.cl, .slice (MC.mk none 0 [] x).p.oa (MC.mk none 0 [] x).p.ps.length (MC.mk none 0 [] x).p.ca]) (vs := [.agg #[.slice (MC.mk none 0 [] x).o (MC.mk none 0 [] x).q.length (MC.mk none 0 [] x).c, .int .i64 (MC.mk none 0 [] x).p.k, .int .i64 (MC.mk none 0 [] x).p.v, .int .i64 (MC.mk none 0 [] x).p.n, .string (MC.mk none 0 [] x).p.s, .slice (MC.mk none 0 [] x).p.ol (MC.mk none 0 [] x).p.ls.length (MC.mk none 0 [] x).p.cl, .slice (MC.mk none 0 [] x).p.oa (MC.mk none 0 [] x).p.ps.length (MC.mk none 0 [] x).p.ca]]); rfl; rfl; exact (Cats.cn (cs := [.slice (MC.mk none 0 [] x).o (MC.mk none 0 [] x).q.length (MC.mk none 0 [] x).c, .int .i64 (MC.mk none 0 [] x).p.k, .int .i64 (MC.mk none 0 [] x).p.v, .int .i64 (MC.mk none 0 [] x).p.n, .string (MC.mk none 0 [] x).p.s, .slice (MC.mk none 0 [] x).p.ol (MC.mk none 0 [] x).p.ls.length (MC.mk none 0 [] x).p.cl, .slice (MC.mk none 0 [] x).p.oa (MC.mk none 0 [] x).p.ps.length (MC.mk none 0 [] x).p.ca]) Cats.nil); rfl; rfl; rfl; exact hH; clear hA hH; rintro _ w ⟨oN, rfl, hH⟩ a hA)
    rw [← encC_eq] at hH
    have hle := hH.own_le (.head _)
    have hF := ((hH.pk 3 rfl).pk 1 rfl).frz_own
    have hR2 : ∀ w, Rd w oN (encC (MC.mk none 0 [] x)) ∧ K w → RdBs w none 0 [] ∧ RdCs w oN 1 [MC.mk none 0 [] x] := fun w h => ⟨RdBs_nil w, by rw [flat_one]; exact h.1, hle.1, hle.2, fun m hm => by
      rw [List.mem_singleton] at hm
      subst hm
      exact ⟨RdQ_nil w, (hR.2.2.2 x hxm).keep (hK w h.2).1⟩⟩
    have hfx := hfew.2 x hxm
    (refine st_op hA rfl rfl (by decide) (op_call rfl rfl rfl (plain_spec w0 _ _ _ (ML.mk i none 0 [] none 0 []) oN 1 [MC.mk none 0 [] x] hF hR2 (fun m hm => by rw [List.mem_singleton] at hm; subst hm; exact hfx.1) (fun m hm => by rw [List.mem_singleton] at hm; subst hm; show 0 + szA x ≤ 1000; omega) (by rw [List.map_cons, szC_cons]; show szA x + 0 + 0 ≤ 1000; omega))) ?_; clear hA hH hF; rintro _ w ⟨K4, m4, rfl, hK4, hun, hH⟩ a hA)
    repeat' (first | (first | (refine GT ?_ ?_ <;> intro hg <;> clear hA a <;> intro a hA <;> (first | exact FA | replace hg := of_decide_eq_true hg | replace hg := of_decide_eq_false hg | skip)) | (refine QT ?_; clear hA a; intro a hA) | (first | (refine BT ?_; clear hA hH; rintro _ w ⟨bN, rfl, hH⟩ a hA) | (refine LT ?_; clear hA hH; rintro _ w ⟨oN, rfl, hH⟩ a hA) | (refine AT ?_; clear hA; rintro _ w ⟨oN, cN, rfl, hH2⟩ a hA; clear hH; have hH := (hH2 _ (by (repeat constructor))).tail; clear hH2) | (refine S0T ?_; clear hH; rintro _ w hH) )) | ((first | refine CT ?_ | (refine DT ?_ ?_ <;> intro hc <;> try (exfalso; omega))) <;> repeat' refine CT ?_) | (first | (refine DSK ?_; clear hA a; intro a hA) | (first | (refine DLT ?_; clear hA hH; rintro _ w ⟨oN, rfl, hH⟩; refine ⟨STT, ?_⟩; intro a hA) | (refine DAT ?_; clear hA; rintro _ w ⟨oN, cN, rfl, hH2⟩; clear hH; have hH := (hH2 _ (by (repeat constructor))).tail; clear hH2; refine ⟨STT, ?_⟩; intro a hA))) )
    rw [← encL_eq, ← flat_snoc, ← len_snoc lo m4] at hH
    rw [← len_snoc lo m4] at hA
    refine ⟨i + 1, ⟨K4, oN, cN, lo ++ [m4], ⟨hlt, fun w hw => ?_, ?_, by rw [len_snoc, hll]⟩, ?_, (hA.sub (by (repeat (first | exact trivial | refine ⟨rfl, ?_⟩))))⟩, by omega⟩
    · have h4 := hK4 w hw
      have h5 := hK w h4.1.2
      refine ⟨h5.1, fun m hm => ?_⟩
      rcases List.mem_append.1 hm with hm | hm
      · exact h5.2 m hm
      · rw [List.mem_singleton] at hm; subst hm; exact h4.2
    · rw [take_next hx, rowsP_snoc, List.map_append, hlo, List.length_take, Nat.min_eq_left hi, Nat.zero_add]
      show _ ++ [m4.un] = _
      rw [hun]
      rfl
    · exact (hH.er 1).perm (by (repeat (first | exact List.Perm.refl _ | exact List.Perm.nil | refine perm_pick 0 rfl ?_ | refine perm_pick 1 rfl ?_ | refine perm_pick 2 rfl ?_ | refine perm_pick 3 rfl ?_ | refine perm_pick 4 rfl ?_ | refine perm_pick 5 rfl ?_ | refine perm_pick 6 rfl ?_ | refine perm_pick 7 rfl ?_ | refine perm_pick 8 rfl ?_ | refine perm_pick 9 rfl ?_ | refine perm_pick 10 rfl ?_ | refine perm_pick 11 rfl ?_)))
  clear hA hH
  rintro a w ⟨K, oo, co, lo, ⟨hK, hlo⟩, hH, hA⟩
  repeat' (first | (first | (refine GT ?_ ?_ <;> intro hg <;> clear hA a <;> intro a hA <;> (first | exact FA | replace hg := of_decide_eq_true hg | replace hg := of_decide_eq_false hg | skip)) | (refine QT ?_; clear hA a; intro a hA) | (first | (refine BT ?_; clear hA hH; rintro _ w ⟨bN, rfl, hH⟩ a hA) | (refine LT ?_; clear hA hH; rintro _ w ⟨oN, rfl, hH⟩ a hA) | (refine AT ?_; clear hA; rintro _ w ⟨oN, cN, rfl, hH2⟩ a hA; clear hH; have hH := (hH2 _ (by (repeat constructor))).tail; clear hH2) | (refine S0T ?_; clear hH; rintro _ w hH) )) | ((first | refine CT ?_ | (refine DT ?_ ?_ <;> intro hc <;> try (exfalso; omega))) <;> repeat' refine CT ?_) | (first | (refine DSK ?_; clear hA a; intro a hA) | (first | (refine DLT ?_; clear hA hH; rintro _ w ⟨oN, rfl, hH⟩; refine ⟨STT, ?_⟩; intro a hA) | (refine DAT ?_; clear hA; rintro _ w ⟨oN, cN, rfl, hH2⟩; clear hH; have hH := (hH2 _ (by (repeat constructor))).tail; clear hH2; refine ⟨STT, ?_⟩; intro a hA))) )
  have hle := hH.own_le (T := 52) (xs := flat encL lo) (by exact MEMT)
  have hrw := rowsP_rw l 0 hfew.2
  have hlol : lo.length ≤ 64 := by
    have e1 := congrArg List.length hlo
    rw [List.length_map, rowsP_len] at e1
    omega
  have hrw2 : ∀ m ∈ lo, Rw m.un := fun m hm => hrw m.un (hlo ▸ List.mem_map.2 ⟨m, hm, rfl⟩)
  have hF := (((hH.pk 2 rfl).pk 2 rfl).frz_own).pk 1 rfl
  (refine st_op hA rfl rfl (by decide) (op_call rfl rfl rfl (tree_spec 1024 w0 _ _ _ bN 1024 oo co lo hd0 hF (fun w hw => ⟨hw.1, hle.1, hle.2, (hK w hw.2).2⟩) hrw2 hlol (by decide) (by decide) (by decide))) ?_; clear hA hH hF; rintro _ w ⟨K3, t, rfl, hK3, hth, htu, hH⟩ a hA)
  rw [hlo] at htu hH
  have hsz := treeP_sz 1024 hd0 (rowsP l 0) 1024 hrw
  rw [← htu] at hsz
  generalize hx2 : (treeP 1024 hd0 (rowsP l 0) 1024).2 = x2 at *
  repeat' (first | (first | (refine GT ?_ ?_ <;> intro hg <;> clear hA a <;> intro a hA <;> (first | exact FA | replace hg := of_decide_eq_true hg | replace hg := of_decide_eq_false hg | skip)) | (refine QT ?_; clear hA a; intro a hA) | (first | (refine BT ?_; clear hA hH; rintro _ w ⟨bN, rfl, hH⟩ a hA) | (refine LT ?_; clear hA hH; rintro _ w ⟨oN, rfl, hH⟩ a hA) | (refine AT ?_; clear hA; rintro _ w ⟨oN, cN, rfl, hH2⟩ a hA; clear hH; have hH := (hH2 _ (by (repeat constructor))).tail; clear hH2) | (refine S0T ?_; clear hH; rintro _ w hH) | (apply st_op0 hA rfl rfl; apply op_store_agg (vs := encT t); rfl; rfl; exact hH; (repeat constructor); (repeat rfl); clear hH; rintro _ w hH))) | ((first | refine CT ?_ | (refine DT ?_ ?_ <;> intro hc <;> try (exfalso; omega))) <;> repeat' refine CT ?_) | (first | (refine DSK ?_; clear hA a; intro a hA) | (first | (refine DLT ?_; clear hA hH; rintro _ w ⟨oN, rfl, hH⟩; refine ⟨STT, ?_⟩; intro a hA) | (refine DAT ?_; clear hA; rintro _ w ⟨oN, cN, rfl, hH2⟩; clear hH; have hH := (hH2 _ (by (repeat constructor))).tail; clear hH2; refine ⟨STT, ?_⟩; intro a hA))) )
  · have hcom := comP_great (l := l) hnm hnf (by rw [hx2]; assumption)
    repeat' (first | (first | (refine GT ?_ ?_ <;> intro hg <;> clear hA a <;> intro a hA <;> (first | exact FA | replace hg := of_decide_eq_true hg | replace hg := of_decide_eq_false hg | skip)) | ((first | apply st_ex hA hH rfl rfl (by decide) | apply dr_ex hA rfl rfl rfl (by decide) | apply dr_exp hA rfl rfl rfl (by decide) | apply dr_ex3 hA hH rfl rfl rfl (by decide)); (first | (apply ex_build_p (encT (zT hd0)).toArray; rfl; (repeat (first | (intro _ h; exact absurd h (List.not_mem_nil)) | (refine List.forall_mem_cons.2 ⟨one_cell_of _ _, ?_⟩))); rfl)); clear hA a; intro a hA) | (refine QT ?_; clear hA a; intro a hA) | (first | (refine BT ?_; clear hA hH; rintro _ w ⟨bN, rfl, hH⟩ a hA) | (refine LT ?_; clear hA hH; rintro _ w ⟨oN, rfl, hH⟩ a hA) | (refine AT ?_; clear hA; rintro _ w ⟨oN, cN, rfl, hH2⟩ a hA; clear hH; have hH := (hH2 _ (by (repeat constructor))).tail; clear hH2) | (refine S0T ?_; clear hH; rintro _ w hH) | (apply st_op0 hA rfl rfl; apply op_store_agg (vs := encT (zT hd0)); rfl; rfl; exact hH; (repeat constructor); (repeat rfl); clear hH; rintro _ w hH))) | ((first | refine CT ?_ | (refine DT ?_ ?_ <;> intro hc <;> try (exfalso; omega))) <;> repeat' refine CT ?_) | (first | (refine DSK ?_; clear hA a; intro a hA) | (first | (refine DLT ?_; clear hA hH; rintro _ w ⟨oN, rfl, hH⟩; refine ⟨STT, ?_⟩; intro a hA) | (refine DAT ?_; clear hA; rintro _ w ⟨oN, cN, rfl, hH2⟩; clear hH; have hH := (hH2 _ (by (repeat constructor))).tail; clear hH2; refine ⟨STT, ?_⟩; intro a hA))) )
    exact rt2c (vs := encT (zT hd0)) (.inl rfl) rfl hA rfl rfl rfl hH (cls_cb_all (by exact MEMT)) ⟨zT hd0, by rw [hcom], by rw [hcom]; exact un_z0, hs_z0 hH.drop_⟩
  · have hcom := comP_ok (l := l) hnm hnf (by rw [hx2]; assumption)
    repeat' (first | (first | (refine GT ?_ ?_ <;> intro hg <;> clear hA a <;> intro a hA <;> (first | exact FA | replace hg := of_decide_eq_true hg | replace hg := of_decide_eq_false hg | skip)) | (refine QT ?_; clear hA a; intro a hA) | (first | (refine BT ?_; clear hA hH; rintro _ w ⟨bN, rfl, hH⟩ a hA) | (refine LT ?_; clear hA hH; rintro _ w ⟨oN, rfl, hH⟩ a hA) | (refine AT ?_; clear hA; rintro _ w ⟨oN, cN, rfl, hH2⟩ a hA; clear hH; have hH := (hH2 _ (by (repeat constructor))).tail; clear hH2) | (refine S0T ?_; clear hH; rintro _ w hH) )) | ((first | refine CT ?_ | (refine DT ?_ ?_ <;> intro hc <;> try (exfalso; omega))) <;> repeat' refine CT ?_) | (first | (refine DSK ?_; clear hA a; intro a hA) | (first | (refine DLT ?_; clear hA hH; rintro _ w ⟨oN, rfl, hH⟩; refine ⟨STT, ?_⟩; intro a hA) | (refine DAT ?_; clear hA; rintro _ w ⟨oN, cN, rfl, hH2⟩; clear hH; have hH := (hH2 _ (by (repeat constructor))).tail; clear hH2; refine ⟨STT, ?_⟩; intro a hA))) )
    (refine st_op hA rfl rfl (by decide) (op_call rfl rfl rfl (own_spec _ t (Nat.lt_succ_self _) w0 _ _ K3 ((hH.pk 3 rfl).pk 3 rfl) (fun w hw => (hK3 w hw).2) hsz)) ?_; clear hA hH; rintro _ w ⟨t', rfl, hth', htu', hH⟩ a hA)
    repeat' (first | (first | (refine GT ?_ ?_ <;> intro hg <;> clear hA a <;> intro a hA <;> (first | exact FA | replace hg := of_decide_eq_true hg | replace hg := of_decide_eq_false hg | skip)) | (refine QT ?_; clear hA a; intro a hA) | (first | (refine BT ?_; clear hA hH; rintro _ w ⟨bN, rfl, hH⟩ a hA) | (refine LT ?_; clear hA hH; rintro _ w ⟨oN, rfl, hH⟩ a hA) | (refine AT ?_; clear hA; rintro _ w ⟨oN, cN, rfl, hH2⟩ a hA; clear hH; have hH := (hH2 _ (by (repeat constructor))).tail; clear hH2) | (refine S0T ?_; clear hH; rintro _ w hH) | (apply st_op0 hA rfl rfl; apply op_store_agg (vs := encT t'); rfl; rfl; exact hH; (repeat constructor); (repeat rfl); clear hH; rintro _ w hH))) | ((first | refine CT ?_ | (refine DT ?_ ?_ <;> intro hc <;> try (exfalso; omega))) <;> repeat' refine CT ?_) | (first | (refine DSK ?_; clear hA a; intro a hA) | (first | (refine DLT ?_; clear hA hH; rintro _ w ⟨oN, rfl, hH⟩; refine ⟨STT, ?_⟩; intro a hA) | (refine DAT ?_; clear hA; rintro _ w ⟨oN, cN, rfl, hH2⟩; clear hH; have hH := (hH2 _ (by (repeat constructor))).tail; clear hH2; refine ⟨STT, ?_⟩; intro a hA))) )
    exact rt2c (vs := encT t') (.inl rfl) rfl hA rfl rfl rfl hH (cls_cb_all (by exact MEMT)) ⟨t', by rw [hcom], by rw [hcom, htu', htu], hH.head⟩
end Go.Proofs.Ytcododdkjppmjaa
namespace Go.Proofs.Ytcododdkjppmjaa
open Go Go.Fw
set_option linter.unusedVariables false
def ap0 : AP := .mk 0 0 0 emp none 0 [] none 0 []
set_option maxRecDepth 10000 attribute [local irreducible] Code.wp wpList Calls Ex Op1 sat bat blk cb own Go.Fw.mp Go.Fw.mpO Go.Fw.mpI Go.Fw.mpE Go.Fw.itr HS Rd Ret wkD Hp Cl Cls Exit.then Exit.inBlock Exit.noGoto bodyPost Go.Fw.flat wk2 Go.Fw.all Go.Fw.owns wpOp
attribute [local irreducible] encA encC encL

end Go.Proofs.Ytcododdkjppmjaa
namespace Go.Proofs.Ytcododdkjppmjaa
open Go Go.Fw
set_option linter.unusedVariables false
set_option maxRecDepth 10000 attribute [local irreducible] Code.wp wpList Calls Ex Op1 sat bat blk cb own Go.Fw.mp Go.Fw.mpO Go.Fw.mpI Go.Fw.mpE Go.Fw.itr HS Rd Ret wkD Hp Cl Cls Exit.then Exit.inBlock Exit.noGoto bodyPost Go.Fw.flat wk2 Go.Fw.all Go.Fw.owns wpOp
attribute [local irreducible] encA encC encB encL formP formL partsP partsL plP plL plC szA szL szC

end Go.Proofs.Ytcododdkjppmjaa
namespace Go.Fw
open Go Go.RowKit
end Go.Fw
namespace Go.Proofs.Ytcododdkjppmjaa
open Go Go.Fw
set_option linter.unusedVariables false
set_option maxRecDepth 10000 attribute [local irreducible] Code.wp wpList Calls Ex Op1 sat bat blk cb own Go.Fw.mp Go.Fw.mpO Go.Fw.mpI Go.Fw.mpE Go.Fw.itr HS Rd Ret wkD Hp Cl Cls Exit.then Exit.inBlock Exit.noGoto bodyPost Go.Fw.flat wk2 Go.Fw.all Go.Fw.owns wpOp
attribute [local irreducible] encA encC encB encL formP formL partsP partsL plP plL plC szA szL szC left leftC

end Go.Proofs.Ytcododdkjppmjaa
namespace Go.Proofs.Ytcododdkjppmjaa
open Go Go.Fw
set_option linter.unusedVariables false
/-- a tree that can be read -/
inductive RdT (w : World) : MT → Prop
  | mk {t : MT} (h1 : RdBs w t.ob t.cb t.bs) (h2 : RdQ w t.oq t.cq t.q) (h3 : Rd w t.ot (flat encR t.ts) ∧ t.ts.length ≤ t.ct ∧ t.ct ≤ maxLen) (h4 : Rd w t.oe (flat encT t.es) ∧ t.es.length ≤ t.ce ∧ t.ce ≤ maxLen)
      (h5 : ∀ s ∈ t.ts, RdT w s) (h6 : ∀ s ∈ t.es, RdT w s) : RdT w t
theorem RdT.b {w : World} {t : MT} (h : RdT w t) : RdBs w t.ob t.cb t.bs := by cases h; assumption
theorem RdT.q {w : World} {t : MT} (h : RdT w t) : RdQ w t.oq t.cq t.q := by cases h; assumption
theorem RdT.t {w : World} {t : MT} (h : RdT w t) : Rd w t.ot (flat encR t.ts) ∧ t.ts.length ≤ t.ct ∧ t.ct ≤ maxLen := by cases h; assumption
theorem RdT.e {w : World} {t : MT} (h : RdT w t) : Rd w t.oe (flat encT t.es) ∧ t.es.length ≤ t.ce ∧ t.ce ≤ maxLen := by cases h; assumption
theorem RdT.ts {w : World} {t : MT} (h : RdT w t) : ∀ s ∈ t.ts, RdT w s := by cases h; assumption
theorem RdT.es {w : World} {t : MT} (h : RdT w t) : ∀ s ∈ t.es, RdT w s := by cases h; assumption
theorem RdT.keep {w w' : World} {t : MT} (h : RdT w t) (hk : Kp w noM w') : RdT w' t := by
  have hH : HS w noM [] w' := (HS.init w noM).keep hk
  induction h with
  | mk h1 h2 h3 h4 h5 h6 ih5 ih6 => exact .mk (h1.keep hk) (h2.keep hk) ⟨hH.rd h3.1 id, h3.2⟩ ⟨hH.rd h4.1 id, h4.2⟩ ih5 ih6
theorem Rd_none (w : World) : Rd w none [] := ⟨fun h => absurd h (by decide), fun j u h => by simp at h⟩
set_option maxRecDepth 10000 attribute [local irreducible] Code.wp wpList Calls Ex Op1 sat bat blk cb own Go.Fw.mp Go.Fw.mpO Go.Fw.mpI Go.Fw.mpE Go.Fw.itr HS Rd Ret wkD Hp Cl Cls Exit.then Exit.inBlock Exit.noGoto bodyPost Go.Fw.flat wk2 Go.Fw.all Go.Fw.owns wpOp
attribute [local irreducible] encA encC encB encL treeP treeB brsP heads restL left

end Go.Proofs.Ytcododdkjppmjaa
namespace Go.Proofs.Ytcododdkjppmjaa
open Go Go.Fw
set_option linter.unusedVariables false
set_option maxRecDepth 10000 attribute [local irreducible] Code.wp wpList Calls Ex Op1 sat bat blk cb own Go.Fw.mp Go.Fw.mpO Go.Fw.mpI Go.Fw.mpE Go.Fw.itr HS Rd Ret wkD Hp Cl Cls Exit.then Exit.inBlock Exit.noGoto bodyPost Go.Fw.flat wk2 Go.Fw.all Go.Fw.owns wpOp
attribute [local irreducible] encA encC encB encL treeP treeB brsP heads restL left

end Go.Proofs.Ytcododdkjppmjaa
namespace Go.Proofs.Ytcododdkjppmjaa
open Go Go.Fw
set_option linter.unusedVariables false
set_option maxRecDepth 10000 attribute [local irreducible] Code.wp wpList Calls Ex Op1 sat bat blk cb own Go.Fw.mp Go.Fw.mpO Go.Fw.mpI Go.Fw.mpE Go.Fw.itr HS Rd Ret wkD Hp Cl Cls Exit.then Exit.inBlock Exit.noGoto bodyPost Go.Fw.flat wk2 Go.Fw.all Go.Fw.owns wpOp
attribute [local irreducible] encA encC encL comP treeP formP partsP szA

end Go.Proofs.Ytcododdkjppmjaa
namespace Go.Proofs.Ytcododdkjppmjaa
open Go Go.Fw
set_option linter.unusedVariables false
theorem flatR_tree {ts : List MT} {i : Nat} {s : MT} (h : ts[i]? = some s) : ∀ j v, (encT s)[j]? = some v → (flat encR ts)[i * 12 + 6 + j]? = some v := fun j v hj => by
  rw [Nat.add_assoc]
  exact flat_all encR_len h _ v (encR_tree s j v hj)
theorem encB_eq (x : MB) : encB x = [.int .i64 x.v, .slice x.o x.q.length x.c] := rfl
set_option maxRecDepth 10000 attribute [local irreducible] Code.wp wpList Calls Ex Op1 sat bat blk cb own Go.Fw.mp Go.Fw.mpO Go.Fw.mpI Go.Fw.mpE Go.Fw.itr HS Rd Ret wkD Hp Cl Cls Exit.then Exit.inBlock Exit.noGoto bodyPost Go.Fw.flat wk2 Go.Fw.all Go.Fw.owns wpOp
attribute [local irreducible] encA encC encB encL

end Go.Proofs.Ytcododdkjppmjaa
namespace Go.Fw
open Go Go.RowKit
section
variable {w0 : World} {H : List It} {p : Addr} {v : Value} {vs : List Value} {o : Option Addr} {j i : Nat}
end
end Go.Fw
namespace Go.Proofs.Ytcododdkjppmjaa
open Go Go.Fw
set_option linter.unusedVariables false
set_option maxRecDepth 10000 attribute [local irreducible] Code.wp wpList Calls Ex Op1 sat bat blk cb own Go.Fw.mp Go.Fw.mpO Go.Fw.mpI Go.Fw.mpE Go.Fw.itr HS Rd Ret wkD Hp Cl Cls Exit.then Exit.inBlock Exit.noGoto bodyPost Go.Fw.flat wk2 Go.Fw.all Go.Fw.owns wpOp
attribute [local irreducible] encA encC encB encL itB itF itFs

end Go.Proofs.Ytcododdkjppmjaa
namespace Go.Proofs.Ytcododdkjppmjaa
open Go Go.Fw
set_option linter.unusedVariables false
theorem own_q {w : World} {F : Nat → Prop} {T : Nat} {o : Option Addr} {c : Nat} {q : Pth} (h : (own T 1 o q.length c (flat encX q)).sat w F) : RdQ w o c q := by
  refine ⟨own_rd h, ?_⟩
  rcases h with ⟨_, h1, h2, _⟩ | ⟨b, spare, _, _, _, h4, h5, _⟩
  · rw [h1, h2]; exact ⟨Nat.le_refl _, Nat.zero_le _⟩
  · exact ⟨h4, h5⟩
theorem own_lec {w : World} {F : Nat → Prop} {T sz n : Nat} {o : Option Addr} {c : Nat} {xs : List Value} (h : (own T sz o n c xs).sat w F) : n ≤ c ∧ c ≤ maxLen := by
  rcases h with ⟨_, h1, h2, _⟩ | ⟨b, spare, _, _, _, h4, h5, _⟩
  · rw [h1, h2]; exact ⟨Nat.le_refl _, Nat.zero_le _⟩
  · exact ⟨h4, h5⟩
theorem hp_mem {w : World} : ∀ {L : List It} {F : Nat → Prop} {x : It}, Hp w L F → x ∈ L → ∃ G, x.sat w G
  | [], F, x, _, hx => absurd hx List.not_mem_nil
  | y :: L, F, x, ⟨F1, F2, _, _, h1, h2⟩, hx => by
    rcases List.mem_cons.1 hx with rfl | hx
    · exact ⟨F1, h1⟩
    · exact hp_mem h2 hx
theorem rdT_own {w : World} : ∀ (z : Nat) (t : MT), SizeOf.sizeOf t < z → ∀ F, Hp w (itF t) F → RdT w t
  | 0, t, hz, _, _ => absurd hz (Nat.not_lt_zero _)
  | z + 1, t, hz, F, hp => by
    rw [itF_eq] at hp
    obtain ⟨g1, h1⟩ := hp_mem hp (.head _)
    obtain ⟨g2, h2⟩ := hp_mem hp (.tail _ (.head _))
    obtain ⟨g3, h3⟩ := hp_mem hp (.tail _ (.tail _ (.head _)))
    obtain ⟨g4, h4⟩ := hp_mem hp (.tail _ (.tail _ (.tail _ (.head _))))
    obtain ⟨g5, h5⟩ := hp_mem hp (.tail _ (.tail _ (.tail _ (.tail _ (.head _)))))
    obtain ⟨g6, h6⟩ := hp_mem hp (.tail _ (.tail _ (.tail _ (.tail _ (.tail _ (.head _))))))
    obtain ⟨g7, h7⟩ := hp_mem hp (.tail _ (.tail _ (.tail _ (.tail _ (.tail _ (.tail _ (.head _)))))))
    have h3' : Hp w (t.bs.map itB) g3 := h3
    have h6' : Hp w (itFs t.ts) g6 := h6
    have h7' : Hp w (itFs t.es) g7 := h7
    rw [itFs_map] at h6' h7'
    have l2 := own_lec h2
    refine .mk ⟨own_rd h2, l2.1, l2.2, fun b hb => ?_⟩ (own_q h1) ⟨own_rd h4, own_lec h4⟩ ⟨own_rd h5, own_lec h5⟩ (fun s hs => ?_) (fun s hs => ?_)
    · obtain ⟨g, hg⟩ := hp_mem h3' (List.mem_map.2 ⟨b, hb, rfl⟩)
      exact own_q hg
    · obtain ⟨g, hg⟩ := hp_mem h6' (List.mem_map.2 ⟨s, hs, rfl⟩)
      exact rdT_own z s (by have := mt_lt hs; omega) g hg
    · obtain ⟨g, hg⟩ := hp_mem h7' (List.mem_map.2 ⟨s, hs, rfl⟩)
      exact rdT_own z s (by have := me_lt hs; omega) g hg
theorem HS.rdT {w0 w : World} {M : Nat → Prop} {H : List It} {t : MT} (h : HS w0 M H w) (hm : all (itF t) ∈ H) : RdT w t := by
  obtain ⟨F, hF⟩ := h.sat hm
  exact rdT_own _ t (Nat.lt_succ_self _) F hF
/-- no way to fail, and no case behind that one -/
inductive Lv (most : Int) : Tr → Prop
  | mk {h : Hd} {k n : Int} {bs : List Bnd} {q : Pth} {ts es : List Tr} (h1 : k ≠ 1) (h2 : k = 2 → n ≤ most) (h3 : ∀ t ∈ ts, Lv most t) (h4 : ∀ t ∈ es, Lv most t) : Lv most (.mk h k n bs q ts es)
theorem lv_of {most : Int} {t : MT} (h : Lv most t.un) : t.k ≠ 1 ∧ (t.k = 2 → t.n ≤ most) ∧ (∀ s ∈ t.ts, Lv most s.un) ∧ ∀ s ∈ t.es, Lv most s.un := by
  rw [un_eq] at h
  cases h with
  | mk h1 h2 h3 h4 => exact ⟨h1, h2, fun s hs => h3 _ (List.mem_map.2 ⟨s, hs, rfl⟩), fun s hs => h4 _ (List.mem_map.2 ⟨s, hs, rfl⟩)⟩
mutual
def nodes : Tr → Nat
  | .mk _ _ _ _ _ ts es => nodesL ts + nodesL es + 1
def nodesL : List Tr → Nat
  | [] => 0
  | t :: ts => nodes t + nodesL ts
end
theorem nodesL_append : ∀ (a b : List Tr), nodesL (a ++ b) = nodesL a + nodesL b
  | [], b => by rw [List.nil_append, nodesL]; omega
  | t :: a, b => by rw [List.cons_append, nodesL, nodesL, nodesL_append a b]; omega
theorem nodes_eq (t : MT) : nodes t.un = nodesL (t.ts.map MT.un) + nodesL (t.es.map MT.un) + 1 := by rw [un_eq, nodes]
theorem nodesL_take {l : List MT} {i : Nat} {s : MT} (hs : l[i]? = some s) : nodesL ((l.take (i + 1)).map MT.un) = nodesL ((l.take i).map MT.un) + nodes s.un ∧ nodesL ((l.take (i + 1)).map MT.un) ≤ nodesL (l.map MT.un) := by
  have e : nodesL ((l.take (i + 1)).map MT.un) = nodesL ((l.take i).map MT.un) + nodes s.un := by
    rw [take_next hs, List.map_append, nodesL_append]
    show _ + nodesL [s.un] = _
    rw [nodesL, nodesL]; rfl
  refine ⟨e, ?_⟩
  have : l.map MT.un = (l.take (i + 1)).map MT.un ++ (l.drop (i + 1)).map MT.un := by rw [← List.map_append, List.take_append_drop]
  rw [this, nodesL_append]
  omega
theorem nodes_pos : ∀ (t : Tr), 1 ≤ nodes t
  | .mk _ _ _ _ _ _ _ => by rw [nodes]; omega
theorem nodesL_nil : nodesL [] = 0 := rfl
set_option maxRecDepth 10000 attribute [local irreducible] Code.wp wpList Calls Ex Op1 sat bat blk cb own Go.Fw.mp Go.Fw.mpO Go.Fw.mpI Go.Fw.mpE Go.Fw.itr HS Rd Ret wkD Hp Cl Cls Exit.then Exit.inBlock Exit.noGoto bodyPost Go.Fw.flat wk2 Go.Fw.all Go.Fw.owns wpOp
attribute [local irreducible] encA encC encB encL nodes nodesL

set_option maxHeartbeats 8000000 in
theorem leaves_spec (most : Int) : ∀ (z : Nat) (t : MT), SizeOf.sizeOf t < z → ∀ (w0 : World), RdT w0 t → Lv most t.un →
    Ret Try.prog 11 #[.agg (encT t).toArray, .int .i64 most] w0 (fun v w => v = .bool true ∧ Kp w0 noM w)
  | 0, p, hz, _, _, _ => absurd hz (Nat.not_lt_zero _)
  | z + 1, t, hz, w0, hT, hL => by
    have hH : HS w0 noM [] w0 := HS.init w0 noM
    obtain ⟨e1, e2, e3, e4⟩ := lv_of hL
    have hT3 := hT.t
    have hT4 := hT.e
    have hm1 : t.ts.length ≤ 9223372036854775807 := by have := hT3.2; unfold maxLen at this; omega
    have hm2 : t.es.length ≤ 9223372036854775807 := by have := hT4.2; unfold maxLen at this; omega
    have sT1 : Sp t.ot t.ts.length := hT3.1.sp (sz := 12) (flat_length encR_len _) (by omega)
    have sE1 : Sp t.oe t.es.length := hT4.1.sp (sz := 6) (flat_length encT_len _) (by omega)
    (refine enter (N := 52) Try.func11 rfl Try.ntmps11 rfl ?_; intro a hA; dsimp only [sl0, Nat.reduceAdd] at hA)
    repeat' (first | (first | (refine GT ?_ ?_ <;> intro hg <;> clear hA a <;> intro a hA <;> (first | exact FA | replace hg := of_decide_eq_true hg | replace hg := of_decide_eq_false hg | skip)) | (refine QT ?_; clear hA a; intro a hA) | (first | (refine BT ?_; clear hA hH; rintro _ w ⟨bN, rfl, hH⟩ a hA) | (refine LT ?_; clear hA hH; rintro _ w ⟨oN, rfl, hH⟩ a hA) | (refine AT ?_; clear hA; rintro _ w ⟨oN, cN, rfl, hH2⟩ a hA; clear hH; have hH := (hH2 _ (by (repeat constructor))).tail; clear hH2) | (refine S0T ?_; clear hH; rintro _ w hH) )) | ((first | refine CT ?_ | (refine DT ?_ ?_ <;> intro hc <;> try (exfalso; omega))) <;> repeat' refine CT ?_) | (first | (refine DSK ?_; clear hA a; intro a hA) | (first | (refine DLT ?_; clear hA hH; rintro _ w ⟨oN, rfl, hH⟩; refine ⟨STT, ?_⟩; intro a hA) | (refine DAT ?_; clear hA; rintro _ w ⟨oN, cN, rfl, hH2⟩; clear hH; have hH := (hH2 _ (by (repeat constructor))).tail; clear hH2; refine ⟨STT, ?_⟩; intro a hA))) )
    all_goals
      obtain ⟨b2, hb2⟩ : ∃ b, b = bN := ⟨_, rfl⟩
      rw [← hb2] at hA hH
      clear hb2 bN
      refine wp_lpk (S := Nat) (fun i a w => i ≤ t.ts.length ∧ HS w0 noM [cb b2 29 (encT t)] w ∧ Sl 52 [(1, .int .i64 most), (2, .pointer (some (bat b2 0))), (23, .int .i64 t.ts.length), (24, .int .i64 i)] a) (fun i => t.ts.length - i) (fun a w => HS w0 noM [cb b2 29 (encT t)] w ∧ Sl 52 [(1, .int .i64 most), (2, .pointer (some (bat b2 0)))] a) 0 ⟨Nat.zero_le _, hH, (hA.sub (by (repeat (first | exact trivial | refine ⟨rfl, ?_⟩))))⟩ ?_ ?_
      · clear hA hH
        rintro i a w ⟨hi, hH, hA⟩
        by_cases hlt : i < t.ts.length
        rotate_left
        · repeat' (first | (first | (refine GT ?_ ?_ <;> intro hg <;> clear hA a <;> intro a hA <;> (first | exact FA | replace hg := of_decide_eq_true hg | replace hg := of_decide_eq_false hg | skip)) | (refine QT ?_; clear hA a; intro a hA) | (first | (refine BT ?_; clear hA hH; rintro _ w ⟨bN, rfl, hH⟩ a hA) | (refine LT ?_; clear hA hH; rintro _ w ⟨oN, rfl, hH⟩ a hA) | (refine AT ?_; clear hA; rintro _ w ⟨oN, cN, rfl, hH2⟩ a hA; clear hH; have hH := (hH2 _ (by (repeat constructor))).tail; clear hH2) | (refine S0T ?_; clear hH; rintro _ w hH) )) | ((first | refine CT ?_ | (refine DT ?_ ?_ <;> intro hc <;> try (exfalso; omega))) <;> repeat' refine CT ?_) | (first | (refine DSK ?_; clear hA a; intro a hA) | (first | (refine DLT ?_; clear hA hH; rintro _ w ⟨oN, rfl, hH⟩; refine ⟨STT, ?_⟩; intro a hA) | (refine DAT ?_; clear hA; rintro _ w ⟨oN, cN, rfl, hH2⟩; clear hH; have hH := (hH2 _ (by (repeat constructor))).tail; clear hH2; refine ⟨STT, ?_⟩; intro a hA))) )
          exact ⟨hH, (hA.sub (by (repeat (first | exact trivial | refine ⟨rfl, ?_⟩))))⟩
        obtain ⟨s, hs⟩ : ∃ s, t.ts[i]? = some s := ⟨_, List.getElem?_eq_getElem hlt⟩
        have hsm := List.mem_of_getElem? hs
        have hst := flatR_tree hs
        repeat' (first | (first | (refine GT ?_ ?_ <;> intro hg <;> clear hA a <;> intro a hA <;> (first | exact FA | replace hg := of_decide_eq_true hg | replace hg := of_decide_eq_false hg | skip)) | ((first | apply st_ex hA hH rfl rfl (by decide) | apply dr_ex hA rfl rfl rfl (by decide) | apply dr_exp hA rfl rfl rfl (by decide) | apply dr_ex3 hA hH rfl rfl rfl (by decide)); (first | (apply ex_load_st (vs := encT s); rfl; rfl; exact cls_rd hT3.1 id hst)); clear hA a; intro a hA) | (refine QT ?_; clear hA a; intro a hA) | (first | (refine BT ?_; clear hA hH; rintro _ w ⟨bN, rfl, hH⟩ a hA) | (refine LT ?_; clear hA hH; rintro _ w ⟨oN, rfl, hH⟩ a hA) | (refine AT ?_; clear hA; rintro _ w ⟨oN, cN, rfl, hH2⟩ a hA; clear hH; have hH := (hH2 _ (by (repeat constructor))).tail; clear hH2) | (refine S0T ?_; clear hH; rintro _ w hH) )) | ((first | refine CT ?_ | (refine DT ?_ ?_ <;> intro hc <;> try (exfalso; omega))) <;> repeat' refine CT ?_) | (first | (refine DSK ?_; clear hA a; intro a hA) | (first | (refine DLT ?_; clear hA hH; rintro _ w ⟨oN, rfl, hH⟩; refine ⟨STT, ?_⟩; intro a hA) | (refine DAT ?_; clear hA; rintro _ w ⟨oN, cN, rfl, hH2⟩; clear hH; have hH := (hH2 _ (by (repeat constructor))).tail; clear hH2; refine ⟨STT, ?_⟩; intro a hA))) )
        (refine st_op hA rfl rfl (by decide) (op_call rfl rfl rfl (leaves_spec most z s (by have := mt_lt hsm; omega) _ ((hT.ts s hsm).keep hH.kp) (e3 s hsm))) ?_; clear hA; rintro _ w ⟨rfl, hk⟩ a hA; replace hH := hH.keep hk; clear hk)
        repeat' (first | (first | (refine GT ?_ ?_ <;> intro hg <;> clear hA a <;> intro a hA <;> (first | exact FA | replace hg := of_decide_eq_true hg | replace hg := of_decide_eq_false hg | skip)) | (refine QT ?_; clear hA a; intro a hA) | (first | (refine BT ?_; clear hA hH; rintro _ w ⟨bN, rfl, hH⟩ a hA) | (refine LT ?_; clear hA hH; rintro _ w ⟨oN, rfl, hH⟩ a hA) | (refine AT ?_; clear hA; rintro _ w ⟨oN, cN, rfl, hH2⟩ a hA; clear hH; have hH := (hH2 _ (by (repeat constructor))).tail; clear hH2) | (refine S0T ?_; clear hH; rintro _ w hH) )) | ((first | refine CT ?_ | (refine DT ?_ ?_ <;> intro hc <;> try (exfalso; omega))) <;> repeat' refine CT ?_) | (first | (refine DSK ?_; clear hA a; intro a hA) | (first | (refine DLT ?_; clear hA hH; rintro _ w ⟨oN, rfl, hH⟩; refine ⟨STT, ?_⟩; intro a hA) | (refine DAT ?_; clear hA; rintro _ w ⟨oN, cN, rfl, hH2⟩; clear hH; have hH := (hH2 _ (by (repeat constructor))).tail; clear hH2; refine ⟨STT, ?_⟩; intro a hA))) )
        exact ⟨i + 1, ⟨hlt, hH, (hA.sub (by (repeat (first | exact trivial | refine ⟨rfl, ?_⟩))))⟩, by omega⟩
      clear hA hH
      rintro a w ⟨hH, hA⟩
      repeat' (first | (first | (refine GT ?_ ?_ <;> intro hg <;> clear hA a <;> intro a hA <;> (first | exact FA | replace hg := of_decide_eq_true hg | replace hg := of_decide_eq_false hg | skip)) | (refine QT ?_; clear hA a; intro a hA) | (first | (refine BT ?_; clear hA hH; rintro _ w ⟨bN, rfl, hH⟩ a hA) | (refine LT ?_; clear hA hH; rintro _ w ⟨oN, rfl, hH⟩ a hA) | (refine AT ?_; clear hA; rintro _ w ⟨oN, cN, rfl, hH2⟩ a hA; clear hH; have hH := (hH2 _ (by (repeat constructor))).tail; clear hH2) | (refine S0T ?_; clear hH; rintro _ w hH) )) | ((first | refine CT ?_ | (refine DT ?_ ?_ <;> intro hc <;> try (exfalso; omega))) <;> repeat' refine CT ?_) | (first | (refine DSK ?_; clear hA a; intro a hA) | (first | (refine DLT ?_; clear hA hH; rintro _ w ⟨oN, rfl, hH⟩; refine ⟨STT, ?_⟩; intro a hA) | (refine DAT ?_; clear hA; rintro _ w ⟨oN, cN, rfl, hH2⟩; clear hH; have hH := (hH2 _ (by (repeat constructor))).tail; clear hH2; refine ⟨STT, ?_⟩; intro a hA))) )
      refine wp_lpk (S := Nat) (fun i a w => i ≤ t.es.length ∧ HS w0 noM [cb b2 29 (encT t)] w ∧ Sl 52 [(1, .int .i64 most), (2, .pointer (some (bat b2 0))), (39, .int .i64 t.es.length), (40, .int .i64 i)] a) (fun i => t.es.length - i) (fun a w => HS w0 noM [cb b2 29 (encT t)] w ∧ Sl 52 [] a) 0 ⟨Nat.zero_le _, hH, (hA.sub (by (repeat (first | exact trivial | refine ⟨rfl, ?_⟩))))⟩ ?_ ?_
      · clear hA hH
        rintro i a w ⟨hi, hH, hA⟩
        by_cases hlt : i < t.es.length
        rotate_left
        · repeat' (first | (first | (refine GT ?_ ?_ <;> intro hg <;> clear hA a <;> intro a hA <;> (first | exact FA | replace hg := of_decide_eq_true hg | replace hg := of_decide_eq_false hg | skip)) | (refine QT ?_; clear hA a; intro a hA) | (first | (refine BT ?_; clear hA hH; rintro _ w ⟨bN, rfl, hH⟩ a hA) | (refine LT ?_; clear hA hH; rintro _ w ⟨oN, rfl, hH⟩ a hA) | (refine AT ?_; clear hA; rintro _ w ⟨oN, cN, rfl, hH2⟩ a hA; clear hH; have hH := (hH2 _ (by (repeat constructor))).tail; clear hH2) | (refine S0T ?_; clear hH; rintro _ w hH) )) | ((first | refine CT ?_ | (refine DT ?_ ?_ <;> intro hc <;> try (exfalso; omega))) <;> repeat' refine CT ?_) | (first | (refine DSK ?_; clear hA a; intro a hA) | (first | (refine DLT ?_; clear hA hH; rintro _ w ⟨oN, rfl, hH⟩; refine ⟨STT, ?_⟩; intro a hA) | (refine DAT ?_; clear hA; rintro _ w ⟨oN, cN, rfl, hH2⟩; clear hH; have hH := (hH2 _ (by (repeat constructor))).tail; clear hH2; refine ⟨STT, ?_⟩; intro a hA))) )
          exact ⟨hH, (hA.sub (by (repeat (first | exact trivial | refine ⟨rfl, ?_⟩))))⟩
        obtain ⟨s, hs⟩ : ∃ s, t.es[i]? = some s := ⟨_, List.getElem?_eq_getElem hlt⟩
        have hsm := List.mem_of_getElem? hs
        have hst := flat_all encT_len hs
        repeat' (first | (first | (refine GT ?_ ?_ <;> intro hg <;> clear hA a <;> intro a hA <;> (first | exact FA | replace hg := of_decide_eq_true hg | replace hg := of_decide_eq_false hg | skip)) | ((first | apply st_ex hA hH rfl rfl (by decide) | apply dr_ex hA rfl rfl rfl (by decide) | apply dr_exp hA rfl rfl rfl (by decide) | apply dr_ex3 hA hH rfl rfl rfl (by decide)); (first | (apply ex_load_st (vs := encT s); rfl; rfl; exact cls_rd hT4.1 id hst)); clear hA a; intro a hA) | (refine QT ?_; clear hA a; intro a hA) | (first | (refine BT ?_; clear hA hH; rintro _ w ⟨bN, rfl, hH⟩ a hA) | (refine LT ?_; clear hA hH; rintro _ w ⟨oN, rfl, hH⟩ a hA) | (refine AT ?_; clear hA; rintro _ w ⟨oN, cN, rfl, hH2⟩ a hA; clear hH; have hH := (hH2 _ (by (repeat constructor))).tail; clear hH2) | (refine S0T ?_; clear hH; rintro _ w hH) )) | ((first | refine CT ?_ | (refine DT ?_ ?_ <;> intro hc <;> try (exfalso; omega))) <;> repeat' refine CT ?_) | (first | (refine DSK ?_; clear hA a; intro a hA) | (first | (refine DLT ?_; clear hA hH; rintro _ w ⟨oN, rfl, hH⟩; refine ⟨STT, ?_⟩; intro a hA) | (refine DAT ?_; clear hA; rintro _ w ⟨oN, cN, rfl, hH2⟩; clear hH; have hH := (hH2 _ (by (repeat constructor))).tail; clear hH2; refine ⟨STT, ?_⟩; intro a hA))) )
        (refine st_op hA rfl rfl (by decide) (op_call rfl rfl rfl (leaves_spec most z s (by have := me_lt hsm; omega) _ ((hT.es s hsm).keep hH.kp) (e4 s hsm))) ?_; clear hA; rintro _ w ⟨rfl, hk⟩ a hA; replace hH := hH.keep hk; clear hk)
        repeat' (first | (first | (refine GT ?_ ?_ <;> intro hg <;> clear hA a <;> intro a hA <;> (first | exact FA | replace hg := of_decide_eq_true hg | replace hg := of_decide_eq_false hg | skip)) | (refine QT ?_; clear hA a; intro a hA) | (first | (refine BT ?_; clear hA hH; rintro _ w ⟨bN, rfl, hH⟩ a hA) | (refine LT ?_; clear hA hH; rintro _ w ⟨oN, rfl, hH⟩ a hA) | (refine AT ?_; clear hA; rintro _ w ⟨oN, cN, rfl, hH2⟩ a hA; clear hH; have hH := (hH2 _ (by (repeat constructor))).tail; clear hH2) | (refine S0T ?_; clear hH; rintro _ w hH) )) | ((first | refine CT ?_ | (refine DT ?_ ?_ <;> intro hc <;> try (exfalso; omega))) <;> repeat' refine CT ?_) | (first | (refine DSK ?_; clear hA a; intro a hA) | (first | (refine DLT ?_; clear hA hH; rintro _ w ⟨oN, rfl, hH⟩; refine ⟨STT, ?_⟩; intro a hA) | (refine DAT ?_; clear hA; rintro _ w ⟨oN, cN, rfl, hH2⟩; clear hH; have hH := (hH2 _ (by (repeat constructor))).tail; clear hH2; refine ⟨STT, ?_⟩; intro a hA))) )
        exact ⟨i + 1, ⟨hlt, hH, (hA.sub (by (repeat (first | exact trivial | refine ⟨rfl, ?_⟩))))⟩, by omega⟩
      clear hA hH
      rintro a w ⟨hH, hA⟩
      repeat' (first | (first | (refine GT ?_ ?_ <;> intro hg <;> clear hA a <;> intro a hA <;> (first | exact FA | replace hg := of_decide_eq_true hg | replace hg := of_decide_eq_false hg | skip)) | (refine QT ?_; clear hA a; intro a hA) | (first | (refine BT ?_; clear hA hH; rintro _ w ⟨bN, rfl, hH⟩ a hA) | (refine LT ?_; clear hA hH; rintro _ w ⟨oN, rfl, hH⟩ a hA) | (refine AT ?_; clear hA; rintro _ w ⟨oN, cN, rfl, hH2⟩ a hA; clear hH; have hH := (hH2 _ (by (repeat constructor))).tail; clear hH2) | (refine S0T ?_; clear hH; rintro _ w hH) )) | ((first | refine CT ?_ | (refine DT ?_ ?_ <;> intro hc <;> try (exfalso; omega))) <;> repeat' refine CT ?_) | (first | (refine DSK ?_; clear hA a; intro a hA) | (first | (refine DLT ?_; clear hA hH; rintro _ w ⟨oN, rfl, hH⟩; refine ⟨STT, ?_⟩; intro a hA) | (refine DAT ?_; clear hA; rintro _ w ⟨oN, cN, rfl, hH2⟩; clear hH; have hH := (hH2 _ (by (repeat constructor))).tail; clear hH2; refine ⟨STT, ?_⟩; intro a hA))) )
      exact rt1 (.inl rfl) rfl hA rfl ⟨rfl, hH.kp⟩
set_option maxHeartbeats 8000000 in
theorem count_spec : ∀ (z : Nat) (t : MT), SizeOf.sizeOf t < z → ∀ (w0 : World) (most : Int), RdT w0 t → (nodes t.un : Int) ≤ most → most ≤ 1000000 →
    Ret Try.prog 10 #[.agg (encT t).toArray, .int .i64 most] w0 (fun v w => v = .int .i64 (nodes t.un) ∧ Kp w0 noM w)
  | 0, p, hz, _, _, _, _, _ => absurd hz (Nat.not_lt_zero _)
  | z + 1, t, hz, w0, most, hT, hn, hm => by
    have hH : HS w0 noM [] w0 := HS.init w0 noM
    have hT3 := hT.t
    have hT4 := hT.e
    have hne := nodes_eq t
    have hm1 : t.ts.length ≤ 9223372036854775807 := by have := hT3.2; unfold maxLen at this; omega
    have hm2 : t.es.length ≤ 9223372036854775807 := by have := hT4.2; unfold maxLen at this; omega
    have sT1 : Sp t.ot t.ts.length := hT3.1.sp (sz := 12) (flat_length encR_len _) (by omega)
    have sE1 : Sp t.oe t.es.length := hT4.1.sp (sz := 6) (flat_length encT_len _) (by omega)
    (refine enter (N := 56) Try.func10 rfl Try.ntmps10 rfl ?_; intro a hA; dsimp only [sl0, Nat.reduceAdd] at hA)
    repeat' (first | (first | (refine GT ?_ ?_ <;> intro hg <;> clear hA a <;> intro a hA <;> (first | exact FA | replace hg := of_decide_eq_true hg | replace hg := of_decide_eq_false hg | skip)) | (refine QT ?_; clear hA a; intro a hA) | (first | (refine BT ?_; clear hA hH; rintro _ w ⟨bN, rfl, hH⟩ a hA) | (refine LT ?_; clear hA hH; rintro _ w ⟨oN, rfl, hH⟩ a hA) | (refine AT ?_; clear hA; rintro _ w ⟨oN, cN, rfl, hH2⟩ a hA; clear hH; have hH := (hH2 _ (by (repeat constructor))).tail; clear hH2) | (refine S0T ?_; clear hH; rintro _ w hH) )) | ((first | refine CT ?_ | (refine DT ?_ ?_ <;> intro hc <;> try (exfalso; omega))) <;> repeat' refine CT ?_) | (first | (refine DSK ?_; clear hA a; intro a hA) | (first | (refine DLT ?_; clear hA hH; rintro _ w ⟨oN, rfl, hH⟩; refine ⟨STT, ?_⟩; intro a hA) | (refine DAT ?_; clear hA; rintro _ w ⟨oN, cN, rfl, hH2⟩; clear hH; have hH := (hH2 _ (by (repeat constructor))).tail; clear hH2; refine ⟨STT, ?_⟩; intro a hA))) )
    obtain ⟨b2, hb2⟩ : ∃ b, b = bN := ⟨_, rfl⟩
    rw [← hb2] at hA hH
    clear hb2 bN
    refine wp_lpk (S := Nat) (fun i a w => i ≤ t.ts.length ∧ HS w0 noM [cb b2 29 (encT t)] w ∧ Sl 56 [(1, .int .i64 most), (2, .pointer (some (bat b2 0))), (5, .int .i64 ((1 + nodesL ((t.ts.take i).map MT.un) : Nat) : Int)), (6, .int .i64 i)] a) (fun i => t.ts.length - i) (fun a w => HS w0 noM [cb b2 29 (encT t)] w ∧ Sl 56 [(1, .int .i64 most), (2, .pointer (some (bat b2 0))), (5, .int .i64 ((1 + nodesL (t.ts.map MT.un) : Nat) : Int))] a) 0 ⟨Nat.zero_le _, hH, by rw [show 1 + nodesL ((t.ts.take 0).map MT.un) = 1 by rw [List.take_zero]; exact congrArg (1 + ·) nodesL_nil]; exact (hA.sub (by (repeat (first | exact trivial | refine ⟨rfl, ?_⟩))))⟩ ?_ ?_
    · clear hA hH
      rintro i a w ⟨hi, hH, hA⟩
      by_cases hlt : i < t.ts.length
      rotate_left
      · obtain rfl : i = t.ts.length := by omega
        rw [List.take_length] at hA
        repeat' (first | (first | (refine GT ?_ ?_ <;> intro hg <;> clear hA a <;> intro a hA <;> (first | exact FA | replace hg := of_decide_eq_true hg | replace hg := of_decide_eq_false hg | skip)) | (refine QT ?_; clear hA a; intro a hA) | (first | (refine BT ?_; clear hA hH; rintro _ w ⟨bN, rfl, hH⟩ a hA) | (refine LT ?_; clear hA hH; rintro _ w ⟨oN, rfl, hH⟩ a hA) | (refine AT ?_; clear hA; rintro _ w ⟨oN, cN, rfl, hH2⟩ a hA; clear hH; have hH := (hH2 _ (by (repeat constructor))).tail; clear hH2) | (refine S0T ?_; clear hH; rintro _ w hH) )) | ((first | refine CT ?_ | (refine DT ?_ ?_ <;> intro hc <;> try (exfalso; omega))) <;> repeat' refine CT ?_) | (first | (refine DSK ?_; clear hA a; intro a hA) | (first | (refine DLT ?_; clear hA hH; rintro _ w ⟨oN, rfl, hH⟩; refine ⟨STT, ?_⟩; intro a hA) | (refine DAT ?_; clear hA; rintro _ w ⟨oN, cN, rfl, hH2⟩; clear hH; have hH := (hH2 _ (by (repeat constructor))).tail; clear hH2; refine ⟨STT, ?_⟩; intro a hA))) )
        exact ⟨hH, (hA.sub (by (repeat (first | exact trivial | refine ⟨rfl, ?_⟩))))⟩
      obtain ⟨s, hs⟩ : ∃ s, t.ts[i]? = some s := ⟨_, List.getElem?_eq_getElem hlt⟩
      have hsm := List.mem_of_getElem? hs
      have hst := flatR_tree hs
      obtain ⟨hn1, hn2⟩ := nodesL_take hs
      have hn3 := nodes_pos s.un
      rw [hn1] at hn2
      generalize hg : nodesL ((t.ts.take i).map MT.un) = g at *
      repeat' (first | (first | (refine GT ?_ ?_ <;> intro hg <;> clear hA a <;> intro a hA <;> (first | exact FA | replace hg := of_decide_eq_true hg | replace hg := of_decide_eq_false hg | skip)) | ((first | apply st_ex hA hH rfl rfl (by decide) | apply dr_ex hA rfl rfl rfl (by decide) | apply dr_exp hA rfl rfl rfl (by decide) | apply dr_ex3 hA hH rfl rfl rfl (by decide)); (first | (apply ex_load_st (vs := encT s); rfl; rfl; exact cls_rd hT3.1 id hst)); clear hA a; intro a hA) | (refine QT ?_; clear hA a; intro a hA) | (first | (refine BT ?_; clear hA hH; rintro _ w ⟨bN, rfl, hH⟩ a hA) | (refine LT ?_; clear hA hH; rintro _ w ⟨oN, rfl, hH⟩ a hA) | (refine AT ?_; clear hA; rintro _ w ⟨oN, cN, rfl, hH2⟩ a hA; clear hH; have hH := (hH2 _ (by (repeat constructor))).tail; clear hH2) | (refine S0T ?_; clear hH; rintro _ w hH) )) | ((first | refine CT ?_ | (refine DT ?_ ?_ <;> intro hc <;> try (exfalso; omega))) <;> repeat' refine CT ?_) | (first | (refine DSK ?_; clear hA a; intro a hA) | (first | (refine DLT ?_; clear hA hH; rintro _ w ⟨oN, rfl, hH⟩; refine ⟨STT, ?_⟩; intro a hA) | (refine DAT ?_; clear hA; rintro _ w ⟨oN, cN, rfl, hH2⟩; clear hH; have hH := (hH2 _ (by (repeat constructor))).tail; clear hH2; refine ⟨STT, ?_⟩; intro a hA))) )
      (refine st_op hA rfl rfl (by decide) (op_call rfl rfl rfl (count_spec z s (by have := mt_lt hsm; omega) _ (most - ((1 + g : Nat) : Int)) ((hT.ts s hsm).keep hH.kp) (by omega) (by omega))) ?_; clear hA; rintro _ w ⟨rfl, hk⟩ a hA; replace hH := hH.keep hk; clear hk)
      have e5 : ((1 + g : Nat) : Int) + (nodes s.un : Int) = ((1 + (g + nodes s.un) : Nat) : Int) := by omega
      repeat' (first | (first | (refine GT ?_ ?_ <;> intro hg <;> clear hA a <;> intro a hA <;> (first | exact FA | replace hg := of_decide_eq_true hg | replace hg := of_decide_eq_false hg | skip)) | (refine QT ?_; clear hA a; intro a hA) | (first | (refine BT ?_; clear hA hH; rintro _ w ⟨bN, rfl, hH⟩ a hA) | (refine LT ?_; clear hA hH; rintro _ w ⟨oN, rfl, hH⟩ a hA) | (refine AT ?_; clear hA; rintro _ w ⟨oN, cN, rfl, hH2⟩ a hA; clear hH; have hH := (hH2 _ (by (repeat constructor))).tail; clear hH2) | (refine S0T ?_; clear hH; rintro _ w hH) )) | ((first | refine CT ?_ | (refine DT ?_ ?_ <;> intro hc <;> try (exfalso; omega))) <;> repeat' refine CT ?_) | (first | (refine DSK ?_; clear hA a; intro a hA) | (first | (refine DLT ?_; clear hA hH; rintro _ w ⟨oN, rfl, hH⟩; refine ⟨STT, ?_⟩; intro a hA) | (refine DAT ?_; clear hA; rintro _ w ⟨oN, cN, rfl, hH2⟩; clear hH; have hH := (hH2 _ (by (repeat constructor))).tail; clear hH2; refine ⟨STT, ?_⟩; intro a hA))) )
      exact ⟨i + 1, ⟨hlt, hH, by rw [hn1, ← e5]; exact (hA.sub (by (repeat (first | exact trivial | refine ⟨rfl, ?_⟩))))⟩, by omega⟩
    clear hA hH
    rintro a w ⟨hH, hA⟩
    repeat' (first | (first | (refine GT ?_ ?_ <;> intro hg <;> clear hA a <;> intro a hA <;> (first | exact FA | replace hg := of_decide_eq_true hg | replace hg := of_decide_eq_false hg | skip)) | (refine QT ?_; clear hA a; intro a hA) | (first | (refine BT ?_; clear hA hH; rintro _ w ⟨bN, rfl, hH⟩ a hA) | (refine LT ?_; clear hA hH; rintro _ w ⟨oN, rfl, hH⟩ a hA) | (refine AT ?_; clear hA; rintro _ w ⟨oN, cN, rfl, hH2⟩ a hA; clear hH; have hH := (hH2 _ (by (repeat constructor))).tail; clear hH2) | (refine S0T ?_; clear hH; rintro _ w hH) )) | ((first | refine CT ?_ | (refine DT ?_ ?_ <;> intro hc <;> try (exfalso; omega))) <;> repeat' refine CT ?_) | (first | (refine DSK ?_; clear hA a; intro a hA) | (first | (refine DLT ?_; clear hA hH; rintro _ w ⟨oN, rfl, hH⟩; refine ⟨STT, ?_⟩; intro a hA) | (refine DAT ?_; clear hA; rintro _ w ⟨oN, cN, rfl, hH2⟩; clear hH; have hH := (hH2 _ (by (repeat constructor))).tail; clear hH2; refine ⟨STT, ?_⟩; intro a hA))) )
    refine wp_lpk (S := Nat) (fun i a w => i ≤ t.es.length ∧ HS w0 noM [cb b2 29 (encT t)] w ∧ Sl 56 [(1, .int .i64 most), (2, .pointer (some (bat b2 0))), (5, .int .i64 ((1 + nodesL (t.ts.map MT.un) + nodesL ((t.es.take i).map MT.un) : Nat) : Int)), (7, .int .i64 i)] a) (fun i => t.es.length - i) (fun a w => HS w0 noM [cb b2 29 (encT t)] w ∧ Sl 56 [(5, .int .i64 (nodes t.un))] a) 0 ⟨Nat.zero_le _, hH, by rw [show nodesL ((t.es.take 0).map MT.un) = 0 by rw [List.take_zero]; exact nodesL_nil]; exact (hA.sub (by (repeat (first | exact trivial | refine ⟨rfl, ?_⟩))))⟩ ?_ ?_
    · clear hA hH
      rintro i a w ⟨hi, hH, hA⟩
      by_cases hlt : i < t.es.length
      rotate_left
      · obtain rfl : i = t.es.length := by omega
        rw [List.take_length] at hA
        have e6 : 1 + nodesL (t.ts.map MT.un) + nodesL (t.es.map MT.un) = nodes t.un := by omega
        rw [e6] at hA
        repeat' (first | (first | (refine GT ?_ ?_ <;> intro hg <;> clear hA a <;> intro a hA <;> (first | exact FA | replace hg := of_decide_eq_true hg | replace hg := of_decide_eq_false hg | skip)) | (refine QT ?_; clear hA a; intro a hA) | (first | (refine BT ?_; clear hA hH; rintro _ w ⟨bN, rfl, hH⟩ a hA) | (refine LT ?_; clear hA hH; rintro _ w ⟨oN, rfl, hH⟩ a hA) | (refine AT ?_; clear hA; rintro _ w ⟨oN, cN, rfl, hH2⟩ a hA; clear hH; have hH := (hH2 _ (by (repeat constructor))).tail; clear hH2) | (refine S0T ?_; clear hH; rintro _ w hH) )) | ((first | refine CT ?_ | (refine DT ?_ ?_ <;> intro hc <;> try (exfalso; omega))) <;> repeat' refine CT ?_) | (first | (refine DSK ?_; clear hA a; intro a hA) | (first | (refine DLT ?_; clear hA hH; rintro _ w ⟨oN, rfl, hH⟩; refine ⟨STT, ?_⟩; intro a hA) | (refine DAT ?_; clear hA; rintro _ w ⟨oN, cN, rfl, hH2⟩; clear hH; have hH := (hH2 _ (by (repeat constructor))).tail; clear hH2; refine ⟨STT, ?_⟩; intro a hA))) )
        exact ⟨hH, (hA.sub (by (repeat (first | exact trivial | refine ⟨rfl, ?_⟩))))⟩
      obtain ⟨s, hs⟩ : ∃ s, t.es[i]? = some s := ⟨_, List.getElem?_eq_getElem hlt⟩
      have hsm := List.mem_of_getElem? hs
      have hst := flat_all encT_len hs
      obtain ⟨hn1, hn2⟩ := nodesL_take hs
      have hn3 := nodes_pos s.un
      rw [hn1] at hn2
      generalize hg : nodesL ((t.es.take i).map MT.un) = g at *
      generalize hg2 : nodesL (t.ts.map MT.un) = g2 at *
      repeat' (first | (first | (refine GT ?_ ?_ <;> intro hg <;> clear hA a <;> intro a hA <;> (first | exact FA | replace hg := of_decide_eq_true hg | replace hg := of_decide_eq_false hg | skip)) | ((first | apply st_ex hA hH rfl rfl (by decide) | apply dr_ex hA rfl rfl rfl (by decide) | apply dr_exp hA rfl rfl rfl (by decide) | apply dr_ex3 hA hH rfl rfl rfl (by decide)); (first | (apply ex_load_st (vs := encT s); rfl; rfl; exact cls_rd hT4.1 id hst)); clear hA a; intro a hA) | (refine QT ?_; clear hA a; intro a hA) | (first | (refine BT ?_; clear hA hH; rintro _ w ⟨bN, rfl, hH⟩ a hA) | (refine LT ?_; clear hA hH; rintro _ w ⟨oN, rfl, hH⟩ a hA) | (refine AT ?_; clear hA; rintro _ w ⟨oN, cN, rfl, hH2⟩ a hA; clear hH; have hH := (hH2 _ (by (repeat constructor))).tail; clear hH2) | (refine S0T ?_; clear hH; rintro _ w hH) )) | ((first | refine CT ?_ | (refine DT ?_ ?_ <;> intro hc <;> try (exfalso; omega))) <;> repeat' refine CT ?_) | (first | (refine DSK ?_; clear hA a; intro a hA) | (first | (refine DLT ?_; clear hA hH; rintro _ w ⟨oN, rfl, hH⟩; refine ⟨STT, ?_⟩; intro a hA) | (refine DAT ?_; clear hA; rintro _ w ⟨oN, cN, rfl, hH2⟩; clear hH; have hH := (hH2 _ (by (repeat constructor))).tail; clear hH2; refine ⟨STT, ?_⟩; intro a hA))) )
      (refine st_op hA rfl rfl (by decide) (op_call rfl rfl rfl (count_spec z s (by have := me_lt hsm; omega) _ (most - ((1 + g2 + g : Nat) : Int)) ((hT.es s hsm).keep hH.kp) (by omega) (by omega))) ?_; clear hA; rintro _ w ⟨rfl, hk⟩ a hA; replace hH := hH.keep hk; clear hk)
      have e5 : ((1 + g2 + g : Nat) : Int) + (nodes s.un : Int) = ((1 + g2 + (g + nodes s.un) : Nat) : Int) := by omega
      repeat' (first | (first | (refine GT ?_ ?_ <;> intro hg <;> clear hA a <;> intro a hA <;> (first | exact FA | replace hg := of_decide_eq_true hg | replace hg := of_decide_eq_false hg | skip)) | (refine QT ?_; clear hA a; intro a hA) | (first | (refine BT ?_; clear hA hH; rintro _ w ⟨bN, rfl, hH⟩ a hA) | (refine LT ?_; clear hA hH; rintro _ w ⟨oN, rfl, hH⟩ a hA) | (refine AT ?_; clear hA; rintro _ w ⟨oN, cN, rfl, hH2⟩ a hA; clear hH; have hH := (hH2 _ (by (repeat constructor))).tail; clear hH2) | (refine S0T ?_; clear hH; rintro _ w hH) )) | ((first | refine CT ?_ | (refine DT ?_ ?_ <;> intro hc <;> try (exfalso; omega))) <;> repeat' refine CT ?_) | (first | (refine DSK ?_; clear hA a; intro a hA) | (first | (refine DLT ?_; clear hA hH; rintro _ w ⟨oN, rfl, hH⟩; refine ⟨STT, ?_⟩; intro a hA) | (refine DAT ?_; clear hA; rintro _ w ⟨oN, cN, rfl, hH2⟩; clear hH; have hH := (hH2 _ (by (repeat constructor))).tail; clear hH2; refine ⟨STT, ?_⟩; intro a hA))) )
      exact ⟨i + 1, ⟨hlt, hH, by rw [hn1, ← e5]; exact (hA.sub (by (repeat (first | exact trivial | refine ⟨rfl, ?_⟩))))⟩, by omega⟩
    clear hA hH
    rintro a w ⟨hH, hA⟩
    repeat' (first | (first | (refine GT ?_ ?_ <;> intro hg <;> clear hA a <;> intro a hA <;> (first | exact FA | replace hg := of_decide_eq_true hg | replace hg := of_decide_eq_false hg | skip)) | (refine QT ?_; clear hA a; intro a hA) | (first | (refine BT ?_; clear hA hH; rintro _ w ⟨bN, rfl, hH⟩ a hA) | (refine LT ?_; clear hA hH; rintro _ w ⟨oN, rfl, hH⟩ a hA) | (refine AT ?_; clear hA; rintro _ w ⟨oN, cN, rfl, hH2⟩ a hA; clear hH; have hH := (hH2 _ (by (repeat constructor))).tail; clear hH2) | (refine S0T ?_; clear hH; rintro _ w hH) )) | ((first | refine CT ?_ | (refine DT ?_ ?_ <;> intro hc <;> try (exfalso; omega))) <;> repeat' refine CT ?_) | (first | (refine DSK ?_; clear hA a; intro a hA) | (first | (refine DLT ?_; clear hA hH; rintro _ w ⟨oN, rfl, hH⟩; refine ⟨STT, ?_⟩; intro a hA) | (refine DAT ?_; clear hA; rintro _ w ⟨oN, cN, rfl, hH2⟩; clear hH; have hH := (hH2 _ (by (repeat constructor))).tail; clear hH2; refine ⟨STT, ?_⟩; intro a hA))) )
    exact rt1 (.inl rfl) rfl hA rfl ⟨rfl, hH.kp⟩
end Go.Proofs.Ytcododdkjppmjaa
